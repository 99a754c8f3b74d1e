/- Walks: policy.Bare. Walks: slices.Clone of rules. -/
import Derived.Test.YtmdmbdbbpdojnaaGreatDoorM15
import Derived.Test.YtmdmbdbbpdojnaaGreatDoorM16
import Derived.Laws.EntriesVeiled
import Derived.Test.YtmdmbdbbpdojnaaGreatDoorM21
namespace Go.Proofs.YtmdmbdbbpdojnaaGreatDoor
open Go.RowKit Nam Pol Go.Maps
attribute [local go_sem] gv_of

/-- Is a name not to be told as bare? -/
def Pol.coverB (l : List Rul) (s : ByteArray) : Bool := !nmB s || decP l s != -1
theorem cover_bare (l : List Rul) (s : ByteArray) : (!coverB l s) = bareB l s := by
  unfold coverB bareB nmB
  rw [Bool.not_or, Bool.not_not]
  have := bare_eq l s
  rw [← this]
  cases isB s.data.toList
  · rfl
  · by_cases e : decP l s = -1 <;> simp [e]
/-- The decider's box. -/
def DecBox (w : World) (b : Nat) (l : List Rul) : Prop := ∃ d, Boxed w b 69 (.func (.func 72) #[] #[.pointer (some ⟨d, 0, none⟩)]) ∧ DecAt w d l
theorem DecAt.fr {S : Nat → Prop} {w w' : World} {b : Nat} {l : List Rul} (h : DecAt w b l) (hF : Fr S w w') (hc : ∀ k c t f, w.heap[k]? = some (.cells c t f) → t ≠ 9 → ¬ S k) (hm : ∀ k es cl, w.heap[k]? = some (.map es cl) → ¬ S k) : DecAt w' b l := by
  obtain ⟨mk, m, h1, h2, h3⟩ := h
  obtain ⟨es, cl, h4, _⟩ := h2.heap
  exact ⟨mk, m, hF.boxed h1 (hc _ _ _ _ h1 (by decide)), h2.fr hF (hm _ _ _ h4), h3⟩
theorem DecBox.fr {S : Nat → Prop} {w w' : World} {b : Nat} {l : List Rul} (h : DecBox w b l) (hF : Fr S w w') (hc : ∀ k c t f, w.heap[k]? = some (.cells c t f) → t ≠ 9 → ¬ S k) (hm : ∀ k es cl, w.heap[k]? = some (.map es cl) → ¬ S k) : DecBox w' b l := by
  obtain ⟨d, h1, h2⟩ := h
  exact ⟨d, hF.boxed h1 (hc _ _ _ _ h1 (by decide)), h2.fr hF hc hm⟩
theorem DecBox.ext {w w' : World} {b : Nat} {l : List Rul} (h : DecBox w b l) (hE : Ext w w') : DecBox w' b l := by
  obtain ⟨d, h1, h2⟩ := h
  exact ⟨d, ext_boxed hE h1, h2.ext hE⟩
theorem own_type {w : World} {base : Nat} {e t : TypeId} {m n k : Nat} {v : Value} {xs : List Value} {c : Array Value} {f : Nat × Nat} (h : w.ownsRow base e m v n xs) (hv : v.ownBlock = some k) (hk : w.heap[k]? = some (.cells c t f)) : t = e := by
  rcases h.2 with ⟨rfl, _⟩ | ⟨g, cap, cur, rfl, _, hh, _⟩
  · simp [Value.ownBlock] at hv
  · simp only [Value.ownBlock, Option.some.injEq] at hv
    subst hv
    rw [hh] at hk
    simp at hk
    exact hk.2.1.symm
set_option maxRecDepth 100000 in
set_option maxHeartbeats 2000000 in
theorem Bare1_any (l : List Rul) (s : ByteArray) (b : Nat) (w : World) (hs : s.size ≤ 9223372036854775807) (hd : DecBox w b l) (hw : Env w) :
    Calls Tryz.prog 52 #[.string s, .pointer (some ⟨b, 0, none⟩)] w (Ret (.bool (coverB l s)) w) := by
  obtain ⟨d, hb, hd⟩ := hd
  have HB := Lib.hid hb; have HD := Lib.hid hd; have HW := Lib.hid hw
  have HC := Lib.hid (show coverB l s = (!nmB s || decP l s != -1) from rfl)
  clear hb hd hw
  cases hn : nmB s
  · have HI := Lib.hid (show isB s.data.toList = false from hn)
    have HN := Lib.hid (HC.out.trans (by rw [hn]))
    clear hn
    go_enter Tryz.func52, Tryz.ntmps52
    go_wp2_with (go_at_call 34; refine (Check_any s _ hs).mono ?_; rintro e w1 ⟨rfl, hE1⟩; rw [HI.out, okOr_false]; have HE1 := Lib.hid hE1; clear hE1)
    go_ret
    exact ⟨ret_bool HN.out.symm, HE1.out⟩
  · have HI := Lib.hid (show isB s.data.toList = true from hn)
    have HN := Lib.hid (HC.out.trans (by rw [hn]))
    clear hn
    go_enter Tryz.func52, Tryz.ntmps52
    go_wp2_with (first
      | (go_at_call 34; refine (Check_any s _ hs).mono ?_; rintro e w1 ⟨rfl, hE1⟩; rw [HI.out, okOr_true]; have hb1 := (ext_boxed hE1 HB.out).cell; have HE1 := Lib.hid hE1; clear hE1)
      | (go_at_call 72; refine (deciders1_any l s d _ HI.out (HD.out.ext HE1.out) (HW.out.ext HE1.out)).mono ?_; rintro e w2 ⟨rfl, hE2⟩; have HE2 := Lib.hid (ext_trans HE1.out hE2); clear hE2))
    go_ret
    exact ⟨ret_bool (by rw [HN.out]; simp), HE2.out⟩
set_option maxRecDepth 100000 in
set_option maxHeartbeats 2000000 in
theorem pBare_any (l : List Rul) (ns : List ByteArray) (a na : Option Addr) (cap n nc m : Nat) (w : World) (hn : l.length = n) (hnc : n ≤ cap) (hcm : cap ≤ maxLen) (hl : Ruls w a l) (hm : ns.length = m) (hmc : m ≤ nc) (hmm : nc ≤ maxLen) (hns : Strs w na ns) (hfew : m ≤ 1000) (hw : Env w) :
    Calls Tryz.prog 22 #[.slice a n cap, .slice na m nc] w (RetL 1 StrAt (ns.filter (bareB l)) w) := by
  have HN := Lib.hid hn; have HNC := Lib.hid hnc; have HCM := Lib.hid hcm; have HL := Lib.hid hl; have HM := Lib.hid hm; have HMC := Lib.hid hmc; have HMM := Lib.hid hmm; have HNS := Lib.hid hns; have HFE := Lib.hid hfew; have HW := Lib.hid hw
  have HZ := Lib.hid (show ∀ s ∈ ns, s.size ≤ maxLen from fun s hs => by
    obtain ⟨j, hj⟩ := List.getElem?_of_mem hs
    obtain ⟨_, _, _, _, h⟩ := hns j s hj
    exact h)
  have HFI := Lib.hid (show (ns.filter fun s => !coverB l s) = ns.filter (bareB l) by congr 1; funext s; exact cover_bare l s)
  clear hn hnc hcm hl hm hmc hmm hns hfew hw
  go_enter Tryz.func22, Tryz.ntmps22
  go_wp2_with (first
    | (go_at_call 42; refine (deciders_any l a cap n _ HN.out HNC.out HCM.out HL.out).mono ?_; rintro e w1 ⟨d, rfl, hd, hE1⟩; have HD := Lib.hid hd; have HE1 := Lib.hid hE1; clear hd hE1)
    | (go_at_call 51
       obtain ⟨W2, hW2⟩ : ∃ W2, w1.alloc (Obj.cells #[.func (.func 72) #[] #[.pointer (some ⟨d, 0, none⟩)]] 69) = W2 := ⟨_, rfl⟩
       have hE2 : Ext w1 W2 := by rw [← hW2]; exact ext_alloc (Below.refl _ _) _
       have hb2 : Boxed W2 w1.heap.size 69 (.func (.func 72) #[] #[.pointer (some ⟨d, 0, none⟩)]) := by rw [← hW2]; exact Boxed.new _ _ _
       have HE2 := Lib.hid (ext_trans HE1.out hE2)
       have HB2 := Lib.hid (show DecBox W2 w1.heap.size l from ⟨d, hb2, HD.out.ext hE2⟩)
       rw [hW2]
       clear hW2 hE2 hb2
       refine (CloneS_any ns na nc m _ HM.out HMC.out HMM.out (HNS.out.ext HE2.out) (by have := HFE.out; omega)).mono ?_
       rintro e w3 ⟨v, rfl, hown, hE3⟩
       have HO3 := Lib.hid hown; have HE3 := Lib.hid hE3
       clear hown hE3)
    | (go_at_call 50
       refine (DeleteFuncS_any ns (coverB l) 52 #[.pointer (some ⟨w1.heap.size, 0, none⟩)] v W2.heap.size m _ HM.out (by have := HFE.out; omega) HZ.out HO3.out (enters_of Tryz.func52 (by kernel_rfl) rfl)
         (fun s hs w' hF => Bare1_any l s _ w' (HZ.out s hs)
           ((HB2.out.ext HE3.out).fr hF (fun k c t f hk ht hv => ht (own_type HO3.out hv hk)) (fun k es cl hk hv => own_map_apart HO3.out hk hv))
           (env_fr ((HW.out.ext HE2.out).ext HE3.out) hF (fun hv => by
             have h1 := own_ge HO3.out _ hv
             have h2 := HE2.out.size
             obtain ⟨m, hm⟩ := HW.out
             have h3 : 0 < w.heap.size := cell_lt hm
             omega)))).mono ?_
       rintro e w4 ⟨v', rfl, hsl, hF4⟩
       have HSL := Lib.hid hsl
       have HX4 := Lib.hid (show Ext w w4 from (ext_trans HE2.out HE3.out).trans (hF4.below (ext_trans HE2.out HE3.out).size (fun k hk => Nat.le_trans HE2.out.size (own_ge HO3.out _ hk))))
       clear hsl hF4))
  go_ret
  exact ⟨v', rfl, by rw [← HFI.out]; exact HSL.out, HX4.out⟩
end Go.Proofs.YtmdmbdbbpdojnaaGreatDoor
namespace Go.Proofs.YtmdmbdbbpdojnaaGreatDoor
open Go.RowKit Nam Pol Go.Maps
attribute [local go_sem] gv_of

theorem Tryz.infoRule : (Tryz.prog.info? 54).map (fun i => (i.zero, i.size, i.bytes)) = some (some (.agg #[.string ⟨#[]⟩, .bool false, .slice none 0 0, .int .u64 0, .int .i64 0, .int .i64 0, .int .i64 0]), 7, 80) := by kernel_rfl
/-- A rule's seven cells, its patterns' slice told. -/
def rulC (q : Rul × (Option Addr × Nat)) : List Value := [.string q.1.name, .bool q.1.allow, .slice q.2.1 q.1.pats.length q.2.2, .int .u64 q.1.keyMin, .int .i64 q.1.lifeMax, .int .i64 q.1.most, .int .i64 q.1.window]
theorem rules_ends {w : World} {b off : Nat} {l : List Rul} (hl : Ruls w (some ⟨b, off, none⟩) l) : ∃ es : List (Option Addr × Nat), es.length = l.length ∧ ∀ (j : Nat) (r : Rul), l[j]? = some r → ∃ e, es[j]? = some e ∧
    w.cell? ⟨b, off + j * 7 + 2, none⟩ = some (.slice e.1 r.pats.length e.2) ∧ r.pats.length ≤ e.2 ∧ e.2 ≤ maxLen ∧ Strs w e.1 r.pats := by
  classical
  let P := fun (j : Nat) (e : Option Addr × Nat) => ∀ r, l[j]? = some r → w.cell? ⟨b, off + j * 7 + 2, none⟩ = some (.slice e.1 r.pats.length e.2) ∧ r.pats.length ≤ e.2 ∧ e.2 ≤ maxLen ∧ Strs w e.1 r.pats
  have hP : ∀ j, ∃ e, P j e := fun j => by
    cases hr : l[j]? with
    | none => exact ⟨(none, 0), fun r h => by rw [hr] at h; cases h⟩
    | some r =>
      obtain ⟨b', off', hbb, _, _, ⟨pa, pc, q2, l1, l2, hps⟩, _⟩ := hl j r hr
      cases hbb
      exact ⟨(pa, pc), fun r' h => by rw [hr] at h; cases h; exact ⟨q2, l1, l2, hps⟩⟩
  refine ⟨(List.range l.length).map fun j => (hP j).choose, by simp, fun j r hr => ⟨(hP j).choose, ?_, (hP j).choose_spec r hr⟩⟩
  rw [List.getElem?_map, List.getElem?_range (List.getElem?_eq_some_iff.1 hr).1]; rfl
/-- The cells of a row of rules. -/
theorem rules_cells {w : World} {b off : Nat} {l : List Rul} (hl : Ruls w (some ⟨b, off, none⟩) l) : ∃ xs : List Value, xs.length = l.length * 7 ∧ (∀ (j : Nat) (u : Value), xs[j]? = some u → w.cell? ((⟨b, off, none⟩ : Addr).add j) = some u) ∧ (∀ u ∈ xs, u.oneCell' = true) ∧
    ∀ (w' : World) (base : Nat) (v : Value), Ext w w' → w'.ownsRow base 54 7 v l.length xs → SlV 7 RulAt w' v l := by
  obtain ⟨es, hes, he⟩ := rules_ends hl
  have hz : ∀ (j : Nat) (r : Rul), l[j]? = some r → ∃ e, (l.zip es)[j]? = some (r, e) ∧ w.cell? ⟨b, off + j * 7 + 2, none⟩ = some (.slice e.1 r.pats.length e.2) ∧ r.pats.length ≤ e.2 ∧ e.2 ≤ maxLen ∧ Strs w e.1 r.pats := fun j r hr => by
    obtain ⟨e, h1, h2⟩ := he j r hr
    exact ⟨e, List.getElem?_zip_eq_some.2 ⟨hr, h1⟩, h2⟩
  have hlen : ((l.zip es).flatMap rulC).length = l.length * 7 := by
    have : ∀ (q : List (Rul × (Option Addr × Nat))), (q.flatMap rulC).length = q.length * 7 := fun q => by
      induction q with
      | nil => rfl
      | cons x q ih => rw [List.flatMap_cons, List.length_append, ih, List.length_cons]; show 7 + _ = _; omega
    rw [this, List.length_zip, hes, Nat.min_self]
  have hcell : ∀ (j : Nat) (u : Value), ((l.zip es).flatMap rulC)[j]? = some u → w.cell? ⟨b, off + j, none⟩ = some u ∧ u.oneCell' = true := fun j u hu => by
    have hj : j < l.length * 7 := by rw [← hlen]; exact (List.getElem?_eq_some_iff.1 hu).1
    obtain ⟨q, i, rfl, hi⟩ : ∃ q i, j = q * 7 + i ∧ i < 7 := ⟨j / 7, j % 7, by omega, by omega⟩
    obtain ⟨r, hr⟩ := get_some (l := l) (n := l.length) rfl (k := q) (by omega)
    obtain ⟨e, h1, h2, _⟩ := hz q r hr
    obtain ⟨b', off', hbb, q0, q1, _, q3, q4, q5, q6, _⟩ := hl q r hr
    cases hbb
    rw [flat_get (f := rulC) (fun _ => rfl) i h1 hi] at hu
    rw [← Nat.add_assoc]
    unfold rulC at hu
    match i, hi with
    | 0, _ => simp at hu; subst hu; exact ⟨q0, rfl⟩
    | 1, _ => simp at hu; subst hu; exact ⟨q1, rfl⟩
    | 2, _ => simp at hu; subst hu; exact ⟨h2, rfl⟩
    | 3, _ => simp at hu; subst hu; exact ⟨q3, rfl⟩
    | 4, _ => simp at hu; subst hu; exact ⟨q4, rfl⟩
    | 5, _ => simp at hu; subst hu; exact ⟨q5, rfl⟩
    | 6, _ => simp at hu; subst hu; exact ⟨q6, rfl⟩
  refine ⟨_, hlen, fun j u hu => ?_, fun u hu => ?_, fun w' base v hE hown => ?_⟩
  · have := (hcell j u hu).1
    rwa [show ((⟨b, off, none⟩ : Addr).add j) = ⟨b, off + j, none⟩ from by unfold Addr.add; split <;> simp_all]
  · obtain ⟨j, hj⟩ := List.getElem?_of_mem hu
    exact (hcell j u hj).2
  · rcases own_form hown with ⟨rfl, h0, _⟩ | ⟨g, cap, hv, hg, _, _, hc, hcm⟩
    · have hl0 : l = [] := List.eq_nil_of_length_eq_zero h0
      subst hl0
      exact ⟨none, 0, rfl, Nat.le_refl _, Nat.zero_le _, SlA.nil _ _ _ _⟩
    · refine ⟨some ⟨g, 0, none⟩, cap, hv, hc, hcm, fun j r hr => ⟨g, 0, rfl, ?_⟩⟩
      obtain ⟨e, h1, h2, h3, h4, h5⟩ := hz j r hr
      obtain ⟨_, _, _, _, _, _, _, _, _, _, q7, q8⟩ := hl j r hr
      have c : ∀ (i : Nat) (u : Value), i < 7 → (rulC (r, e))[i]? = some u → w'.cell? ⟨g, j * 7 + i, none⟩ = some u := fun i u hi hu =>
        own_cell hown (by rw [hv]; rfl) (by rw [flat_get (f := rulC) (fun _ => rfl) i h1 hi]; exact hu)
      rw [Nat.zero_add]
      exact ⟨c 0 _ (by decide) rfl, c 1 _ (by decide) rfl, ⟨e.1, e.2, c 2 _ (by decide) rfl, h3, h4, h5.ext hE⟩, c 3 _ (by decide) rfl, c 4 _ (by decide) rfl, c 5 _ (by decide) rfl, c 6 _ (by decide) rfl, q7, q8⟩
/-- The cells of rules, wherever they lie. -/
theorem rules_xs {w : World} {a : Option Addr} {l : List Rul} {n : Nat} (hn : l.length = n) (hl : Ruls w a l) : ∃ xs : List Value, xs.length = n * 7 ∧ (∀ p, a = some p → ∀ (j : Nat) (u : Value), xs[j]? = some u → w.cell? (p.add j) = some u) ∧ (∀ u ∈ xs, u.oneCell' = true) ∧ (a = none → n = 0) ∧
    ∀ (w' : World) (base : Nat) (v : Value), Ext w w' → w'.ownsRow base 54 7 v n xs → SlV 7 RulAt w' v l := by
  by_cases hz : n = 0
  · subst hz
    have hl0 : l = [] := List.eq_nil_of_length_eq_zero hn
    refine ⟨[], rfl, fun _ _ j u h => by simp at h, fun u h => by simp at h, fun _ => rfl, fun w' base v _ hown => ?_⟩
    rw [hl0]
    rcases own_form hown with ⟨rfl, _, _⟩ | ⟨g, cap, hv, _, _, _, _, hcm⟩
    · exact ⟨none, 0, rfl, Nat.le_refl _, Nat.zero_le _, SlA.nil _ _ _ _⟩
    · exact ⟨_, cap, hv, Nat.zero_le _, hcm, SlA.nil _ _ _ _⟩
  · obtain ⟨r, hr⟩ := get_some hn (k := 0) (by omega)
    obtain ⟨b, off, hp, _⟩ := hl 0 r hr
    subst hp
    obtain ⟨xs, h1, h2, h3, h4⟩ := rules_cells hl
    rw [hn] at h1 h4
    exact ⟨xs, h1, fun p hp => by cases hp; exact h2, h3, (fun h => by cases h), h4⟩
set_option maxRecDepth 100000 in
set_option maxHeartbeats 2000000 in
/-- slices.Clone of rules: a row of the same cells, of the call's own. -/
theorem CloneR_any (xs : List Value) (a : Option Addr) (cap n : Nat) (w : World) (_hcm : cap ≤ maxLen) (h1 : xs.length = n * 7) (h2 : ∀ p, a = some p → ∀ (j : Nat) (u : Value), xs[j]? = some u → w.cell? (p.add j) = some u) (h3 : ∀ u ∈ xs, u.oneCell' = true) (h0 : a = none → n = 0) (hfew : n ≤ 100000) :
    Calls Tryz.prog 58 #[.slice a n cap] w fun e w' => ∃ v, e = .returned v ∧ w'.ownsRow w.heap.size 54 7 v n xs ∧ Ext w w' := by
  obtain ⟨i0, hi, hz0, hz1, hz2⟩ := info_parts Tryz.infoRule
  have q := fun (w : World) (a : Option Addr) (n c : Nat) => Lib.run_eql_slice_nil (P := Tryz.prog) w 22 _ a n c 0 0 Tryz.underlying22
  have H1 := Lib.hid h1; have H2 := Lib.hid h2; have H3 := Lib.hid h3
  cases a with
  | none =>
    obtain rfl : n = 0 := h0 rfl
    clear h0 h1 h2 h3
    go_enter Tryz.func58, Tryz.ntmps58
    go_wp2_with fail
    go_ret
    refine ⟨_, rfl, ?_, Below.refl _ _⟩
    rw [show xs = [] from List.eq_nil_of_length_eq_zero (by rw [H1.out])]
    exact World.ownsRow_nil _ _ _ _
  | some p =>
    have HX2 := Lib.hid (H2.out p rfl)
    clear h0 h1 h2 h3 H2
    go_enter Tryz.func58, Tryz.ntmps58
    go_wp2_with (at_builtin; refine wpList_append_own _ rfl _ _ 22 rfl w.heap.size 54 i0 (.agg #[.string ⟨#[]⟩, .bool false, .slice none 0 0, .int .u64 0, .int .i64 0, .int .i64 0, .int .i64 0]) 7 80 Tryz.underlying22 hi hz0 hz1 hz2 rfl (by decide) _ 0 [] rfl (World.ownsRow_made w #[] 0 (Nat.le_refl _) (Nat.zero_le _) (by simp)) p n cap xs rfl H1.out (fun j u hu => ((ext_alloc (Below.refl _ w) _).cell (cell_lt (HX2.out j u hu))).trans (HX2.out j u hu)) H3.out (by unfold maxLen; omega) (by omega) (by simp) ?_; intro v' w1 hown1 hgrow1 _)
    go_ret
    have hE : Ext w w1 := ((Below.refl _ w).alloc (Nat.le_refl _) _).grown hgrow1 (by simp) (fun k hk => by have e : some w.heap.size = some k := hk; cases e; exact Nat.le_refl _)
    exact ⟨v', rfl, by simpa using hown1, hE⟩
end Go.Proofs.YtmdmbdbbpdojnaaGreatDoor
