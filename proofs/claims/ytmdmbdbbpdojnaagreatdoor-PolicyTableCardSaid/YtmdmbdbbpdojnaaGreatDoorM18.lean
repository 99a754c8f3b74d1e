/- Walks: policy.back and its iterator; slices.Backward's over strings. Walks: the iterator that policy.back hands out. Walks of the document's functions on policies: put. -/
import Derived.Test.YtmdmbdbbpdojnaaGreatDoorM03
import Derived.Test.YtmdmbdbbpdojnaaGreatDoorM17
namespace Go.Proofs.YtmdmbdbbpdojnaaGreatDoor
open Go.RowKit Nam Pol
attribute [local go_sem] Oper.semAt_some wide_fn wide_depth wide_some

theorem own_kp {S : Nat → Prop} {C : TypeId → Prop} {w w' : World} {base : Nat} {e : TypeId} {m n : Nat} {v : Value} {xs : List Value} (h : w.ownsRow base e m v n xs) (hC : ¬ C e) (hK : KpS S C w w') (hs : ∀ g, v.ownBlock = some g → ¬ S g) : w'.ownsRow base e m v n xs := by
  refine own_keep h fun g hg => ?_
  obtain ⟨-, h | ⟨g', cap, cur, rfl, _, h3, _⟩⟩ := h
  · obtain ⟨rfl, -⟩ := h; simp [Value.ownBlock] at hg
  · have : g' = g := by simpa [Value.ownBlock] using hg
    subst this
    exact hK.block _ (Array.getElem?_eq_some_iff.1 h3).1 (not_cc h3 (fun _ _ _ e => by cases e; exact hC)) (hs _ hg)
def encIS (p : Nat × Str) : Array Value := #[.int .i64 p.1, strV p.2]
set_option maxHeartbeats 400000 in
theorem bkS_any (a : Option Addr) (n cap : Nat) (w : World) :
    Calls Tryz.prog 87 #[.slice a n cap] w fun e w' =>
      e = .returned (.func (.func 120) #[] #[.pointer (some ⟨w.heap.size, 0, none⟩)]) ∧ w' = w.alloc (.cells #[.slice a n cap] 23) := by
  go_enter Tryz.func87, Tryz.ntmps87
  go_wp2
  go_ret
  exact ⟨rfl, rfl⟩
set_option maxRecDepth 100000 in
set_option maxHeartbeats 1000000 in
theorem bkS_iter (l : List Str) (a : Option Addr) (n cap : Nat) (b base : Nat) (hn : l.length = n) (hnm : n ≤ maxLen) (C : TypeId → Prop) (hC1 : ¬ C 23) (hC2 : ¬ C 9) :
    Iter2 Tryz.prog 120 #[.pointer (some ⟨b, 0, none⟩)] encIS (backL l) C
      (fun W => Boxed W b 23 (.slice a n cap) ∧ W.ownsRow base 9 1 (.slice a n cap) n (l.map strV)) := by
  unfold maxLen at hnm
  intro y S J Jx W hOk hly hS hJ hJx hY h0
  refine callsIn_of_wp Tryz.func120 rfl trivial ?_ rfl
  simp only [Tryz.ntmps120, List.size_toArray, List.length_cons, List.length_nil, Nat.reduceAdd, Nat.reduceSub, Array.replicate_succ, Array.replicate_zero, List.push_toArray, List.append_toArray, List.nil_append, List.cons_append]
  obtain ⟨hb0, hown⟩ := hOk
  have c0 := hb0.cell
  have B0 := Lib.hid hb0; have EV := Lib.hid hown; have HN := Lib.hid hn
  have HY := Lib.hid hY; have H0 := Lib.hid h0; have HC1 := Lib.hid hC1; have HC2 := Lib.hid hC2
  clear hJ hJx hY h0 hb0 hown hn hS hly hC1 hC2
  gi_wp2
  gi_loopw [3] (fun i wr => ∃ m : Nat, m ≤ n ∧ BkI i m ∧ Boxed wr b 23 (.slice a n cap) ∧ wr.ownsRow base 9 1 (.slice a n cap) n (l.map strV) ∧ J (n - m) wr ∧ W.heap.size ≤ wr.heap.size) (fun i _ => (intOf i + 1).toNat)
  case atStart => exact ⟨n, Nat.le_refl _, bkI_pred n, B0.out, EV.out, by rw [Nat.sub_self]; exact H0.out, Nat.le_refl _⟩
  case round =>
    obtain ⟨m, hm, hi, g0, hev, hj, hsz⟩ := hrel
    rcases hi with ⟨rfl, rfl⟩ | ⟨j, rfl, rfl⟩
    · have HJ := Lib.hid hj; clear hj hev
      gi_wp2
      go_end0
      exact ⟨⟨_, rfl⟩, .inl (by rw [backL_length, HN.out]; exact HJ.out)⟩
    · obtain ⟨e, he⟩ := get_some HN.out (show j < n by omega)
      have hjn : j < n := by omega
      obtain ⟨g, rfl, hcc1, hcc2⟩ : ∃ g, a = some ⟨g, 0, none⟩ ∧ n ≤ cap ∧ cap ≤ maxLen := by
        rcases own_form hev with ⟨-, h, -⟩ | ⟨g, cap', h, _, _, _, h1, h2⟩
        · omega
        · cases h; exact ⟨g, rfl, h1, h2⟩
      have c0 : wr.cell? ⟨g, j, none⟩ = some (strV e) := own_cell (g := g) hev (by simp [Value.ownBlock]) (by rw [List.getElem?_map, he]; rfl)
      unfold strV at c0
      unfold maxLen at hcc2
      have d0 := g0.cell
      have hx := backL_get (k := n - (j + 1)) (by rw [HN.out]; omega) he
      obtain ⟨fn, tmps, assign, body, hy, hR⟩ := HY.out _ _ wr hx hj hsz
      have G0 := Lib.hid g0; have HEV := Lib.hid hev
      have HR := Lib.hid hR
      have HSZ := Lib.hid hsz
      clear hR hx g0 hev hj he hsz
      unfold encIS strV at hy
      gi_wp2
      refine HR.out.mono ?_
      rintro e' W' (⟨rfl, hJ', hkeep⟩ | ⟨rfl, hJx', -⟩)
      · have g0 := hkeep.boxed G0.out HC1.out (fun h => h)
        have hev' := own_kp HEV.out HC2.out hkeep (fun _ _ h => h)
        have hz := hkeep.size
        have K0 := Lib.hid g0; have KE := Lib.hid hev'; have KJ := Lib.hid hJ'; have KZ := Lib.hid hz; clear g0 hev' hJ' hkeep hz
        gi_wp2
        go_roundw
        case rel => exact ⟨j, by omega, bkI_pred j, K0.out, KE.out, by have := KJ.out; rwa [show n - (j + 1) + 1 = n - j by omega] at this, Nat.le_trans HSZ.out KZ.out⟩
        case measure => simp [intOf]
      · gi_wp2
        exact bodyPost_ret (results_none (fn := Tryz.f120) rfl _ _ _) rfl ⟨⟨_, rfl⟩, .inr ⟨n - (j + 1) + 1, by rw [backL_length, HN.out]; omega, hJx'⟩⟩
set_option maxHeartbeats 400000 in
theorem back_any (s : ByteArray) (w : World) :
    Calls Tryz.prog 56 #[.string s] w fun e w' =>
      e = .returned (.func (.func 86) #[] #[.pointer (some ⟨w.heap.size, 0, none⟩)]) ∧ w' = w.alloc (.cells #[.string s] 9) := by
  go_enter Tryz.func56, Tryz.ntmps56
  go_wp2
  go_ret
  exact ⟨rfl, rfl⟩
end Go.Proofs.YtmdmbdbbpdojnaaGreatDoor
namespace Go.Proofs.YtmdmbdbbpdojnaaGreatDoor
open Go.RowKit Nam Pol
attribute [local go_sem] Oper.semAt_some wide_fn wide_depth wide_some

def encB (s : ByteArray) : Array Value := #[.string s]
/-- The labels of a name, the last first. -/
def labsB (s : ByteArray) : List ByteArray := (if isB s.data.toList then cut s.data.toList else []).reverse.map fun x => ⟨x.toArray⟩
theorem labs_get {L : List Str} {k : Nat} {p : Nat × Str} (h : (backL L)[k]? = some p) : (L.reverse.map fun x => (⟨x.toArray⟩ : ByteArray))[k]? = some ⟨p.2.toArray⟩ := by
  obtain ⟨h1, h2⟩ := backL_inv h
  rw [List.getElem?_map, List.getElem?_reverse (by omega), show L.length - 1 - k = p.1 by omega, h2]; rfl
theorem own_slice {w : World} {base : Nat} {e : TypeId} {m n : Nat} {v : Value} {xs : List Value} (h : w.ownsRow base e m v n xs) : ∃ a cap, v = .slice a n cap := by
  rcases own_form h with ⟨rfl, rfl, -⟩ | ⟨g, cap, rfl, _⟩
  · exact ⟨_, _, rfl⟩
  · exact ⟨_, _, rfl⟩
theorem own_len {w : World} {base : Nat} {e : TypeId} {m n : Nat} {v : Value} {xs : List Value} (h : w.ownsRow base e m v n xs) : n ≤ maxLen := by
  rcases own_form h with ⟨-, rfl, -⟩ | ⟨g, cap, -, -, -, -, h1, h2⟩
  · exact Nat.zero_le _
  · exact Nat.le_trans h1 h2
set_option maxRecDepth 100000 in
set_option maxHeartbeats 2000000 in
theorem back1_iter (s : ByteArray) (b : Nat) (hs : s.size ≤ 9223372036854775807) (C : TypeId → Prop) (hC1 : ¬ C 23) (hC2 : ¬ C 9) (hC3 : ¬ C 80) :
    Iter2 Tryz.prog 86 #[.pointer (some ⟨b, 0, none⟩)] encB (labsB s) C (fun W => Boxed W b 9 (.string s) ∧ Env W) := by
  intro y S J Jx W hOk hly hS hJ hJx hY h0
  refine callsIn_of_wp_marks Tryz.func86 rfl trivial ?_ rfl
  simp only [Tryz.ntmps86, List.size_toArray, List.length_cons, List.length_nil, Nat.reduceAdd, Nat.reduceSub, Array.replicate_succ, Array.replicate_zero, List.push_toArray, List.append_toArray, List.nil_append, List.cons_append]
  obtain ⟨hb0, hen⟩ := hOk
  obtain ⟨W0, hW0⟩ : ∃ W0, W.alloc (.cells #[.func (.yield y) #[] #[]] 80) = W0 := ⟨_, rfl⟩
  have hE0 : Ext W W0 := by rw [← hW0]; exact ext_alloc (Below.refl _ _) _
  have hy0 : Boxed W0 W.heap.size 80 (.func (.yield y) #[] #[]) := by rw [← hW0]; exact Boxed.new _ _ _
  have c1 := (ext_boxed hE0 hb0).cell
  obtain ⟨LL, hLL⟩ : ∃ LL, (if isB s.data.toList then cut s.data.toList else []) = LL := ⟨_, rfl⟩
  have hlab := Labels_own s W0 hs (hen.ext hE0)
  rw [hLL] at hlab
  have hlb : labsB s = LL.reverse.map fun x => ⟨x.toArray⟩ := by unfold labsB; rw [hLL]
  rw [hlb] at hY ⊢
  have HE0 := Lib.hid hE0; have HY0 := Lib.hid hy0; have HW0 := Lib.hid hW0; have HLAB := Lib.hid hlab
  have HJ := Lib.hid hJ; have HJx := Lib.hid hJx; have HY := Lib.hid hY; have H0 := Lib.hid h0; have HC3 := Lib.hid hC3; have HS := Lib.hid hS; have HLY := Lib.hid hly
  clear hE0 hy0 hW0 hlab hJ hJx hY h0 hb0 hen hC3 hS hLL hlb hly
  have hww := HW0.out
  clear HW0
  subst hww
  gi_wp2_with (first | (gi_at_call 88; refine (callsIn_wide.2 HLAB.out).mono ?_; rintro e w1 ⟨v, rfl, hv, hE1⟩; rw [List.length_map] at hv; obtain ⟨a, cap, rfl⟩ := own_slice hv; have HV := Lib.hid hv; have HE1 := Lib.hid hE1; clear hv hE1) | (gi_at_call 87; refine (callsIn_wide.2 (bkS_any _ _ _ _)).mono ?_; rintro e w2 ⟨rfl, rfl⟩))
  have hE : Ext W (w1.alloc (Obj.cells #[Value.slice a LL.length cap] 23)) := ext_alloc (ext_trans HE0.out HE1.out) _
  have hbk : Boxed (w1.alloc (Obj.cells #[Value.slice a LL.length cap] 23)) w1.heap.size 23 (.slice a LL.length cap) := Boxed.new _ _ _
  have hyb : Boxed (w1.alloc (Obj.cells #[Value.slice a LL.length cap] 23)) W.heap.size 80 (.func (.yield y) #[] #[]) := (ext_boxed HE1.out HY0.out).alloc _
  have hrow := own_ext HV.out (ext_alloc (Below.refl _ w1) (Obj.cells #[Value.slice a LL.length cap] 23))
  obtain ⟨W2, hW2⟩ : ∃ W2, w1.alloc (Obj.cells #[Value.slice a LL.length cap] 23) = W2 := ⟨_, rfl⟩
  rw [hW2] at hE hbk hyb hrow ⊢
  have hz2 : W.heap.size < W2.heap.size := hyb.lt
  clear hW2
  refine range_law2 (C := C) rfl (enters_of Tryz.func120 (by kernel_rfl) rfl) (bkS_iter LL a LL.length cap w1.heap.size _ rfl (own_len HV.out) C hC1 hC2)
    (fun o1 o2 => ⟨(hbk.alloc _).alloc _, own_ext hrow (ext_alloc (ext_alloc (Below.refl _ _) _) _)⟩) (fun x => rfl)
    (fun b => b = y ∨ S b) (fun b hb => by rcases hb with rfl | hb; (have := HLY.out; omega); (have := HS.out b hb; omega))
    (fun k V => J k V ∧ Boxed V W.heap.size 80 (.func (.yield y) #[] #[]) ∧ W.heap.size ≤ V.heap.size)
    (fun c k V => c = .ret ∧ Jx k V ∧ W.heap.size ≤ V.heap.size)
    ?stI ?stX ⟨HJ.out _ _ _ H0.out (St.of_ext hE), hyb, Nat.le_of_lt hz2⟩ ?round ?done ?stop
  case stI =>
    intro k A B ⟨h1, h2, h3⟩ hf
    exact ⟨HJ.out _ _ _ h1 (hf.mono (Nat.le_of_lt hz2)), hf.boxed h2 (.inr hz2), Nat.le_trans h3 hf.size⟩
  case stX =>
    intro c k A B ⟨h0, h1, h3⟩ hf
    exact ⟨h0, HJx.out _ _ _ h1 (hf.mono (Nat.le_of_lt hz2)), Nat.le_trans h3 hf.size⟩
  case round =>
    rintro lo k ⟨j, x⟩ V hx rfl hV ⟨hi1, hi2, hi3⟩
    have hxl := labs_get hx
    simp only at hxl
    obtain ⟨X, hX⟩ : ∃ X : ByteArray, ⟨x.toArray⟩ = X := ⟨_, rfl⟩
    rw [hX] at hxl
    have HXL := Lib.hid hxl; have HX := Lib.hid hX; have HI1 := Lib.hid hi1
    clear hx hxl hX hi1
    unfold encIS strV
    rw [HX.out]
    gi_wp2
    refine ⟨KpS.refl _, ⟨HI1.out, hi2, hi3⟩, ?_⟩
    rintro Vb ⟨j1, j2, j3⟩ hf hzz
    obtain ⟨fn, tmps, assign, body, hy, hR⟩ := HY.out k X Vb HXL.out j1 j3
    have HR := Lib.hid hR; have J2 := Lib.hid j2
    have d0 := j2.cell
    unfold encB at hy
    clear hR j1 j2 hf hzz hi2 hV
    gi_wp2
    refine RoundIn.mono (F := Fence.wide.inRound _) HR.out ?_
    rintro e' V' (⟨rfl, hJ', hkeep⟩ | ⟨rfl, hJx', hkeep⟩)
    · have HJ' := Lib.hid hJ'; have HK := Lib.hid hkeep; clear hJ' hkeep
      gi_wp2
      exact ⟨HK.out, HJ'.out, HK.out.boxed J2.out HC3.out (fun h => h), Nat.le_trans j3 HK.out.size⟩
    · have HJ' := Lib.hid hJx'; have HK := Lib.hid hkeep; clear hJx' hkeep
      gi_wp2
      exact ⟨HK.out, rfl, HJ'.out, Nat.le_trans j3 HK.out.size⟩
  case done =>
    intro V ⟨hi1, hi2, hi3⟩ hK
    have HI := Lib.hid hi1; have HK := Lib.hid hK
    clear hi1 hK
    gi_wp2
    refine leave_mark HK.out (v := .tuple #[]) (by simp [results, Tryz.results86, go_sem]) ⟨⟨_, rfl⟩, .inl ?_⟩
    have h1 := HI.out
    rw [backL_length] at h1
    rw [List.length_map, List.length_reverse]
    exact HJ.out _ _ _ h1 (St.putObj HK.out (Nat.le_of_lt hz2) (fun _ _ _ e => by cases e))
  case stop =>
    rintro c k V hk ⟨rfl, hi1, hi2⟩ hK
    have HI := Lib.hid hi1; have HK := Lib.hid hK
    clear hi1 hK
    gi_wp2
    refine leave_mark HK.out (v := .tuple #[]) (by simp [results, Tryz.results86, go_sem]) ⟨⟨_, rfl⟩, .inr ⟨k, ?_, ?_⟩⟩
    · rw [backL_length] at hk
      rw [List.length_map, List.length_reverse]; exact hk
    · exact HJx.out _ _ _ HI.out (St.putObj HK.out (Nat.le_of_lt hz2) (fun _ _ _ e => by cases e))
end Go.Proofs.YtmdmbdbbpdojnaaGreatDoor
namespace Go.Proofs.YtmdmbdbbpdojnaaGreatDoor
open Go.RowKit Nam Pol Go.Maps
attribute [local go_sem] gv_of

theorem Pol.down_tree {ns : List Nod} {ps : List (List ByteArray)} (h : Tree ns ps) (ls : List ByteArray) : ∃ ps', Tree (downT ns ls).1 ps' ∧ ps'[(downT ns ls).2]? = some ls := by
  obtain ⟨qs, h1, h2, _, _⟩ := Tree.down ls h h.root
  exact ⟨_, h1, by rw [List.nil_append] at h2; exact h2⟩
theorem Pol.step_len (st : List Nod × Nat) (lab : ByteArray) : (stepT st lab).1.length ≤ st.1.length + 1 := by
  unfold stepT
  split
  · omega
  · split
    · simp only; omega
    · simp only [growT_length]; omega
theorem Pol.down_len : ∀ (ls : List ByteArray) (st : List Nod × Nat), (ls.foldl stepT st).1.length ≤ st.1.length + ls.length
  | [], st => by simp
  | lab :: ls, st => by
    have h1 := down_len ls (stepT st lab)
    have h2 := step_len st lab
    rw [List.foldl_cons, List.length_cons]; omega
theorem Pol.Tree.kids_le {ns : List Nod} {ps : List (List ByteArray)} (h : Tree ns ps) {j : Nat} {x : Nod} (hx : ns[j]? = some x) : x.kids.length ≤ ns.length := by
  have h1 := h.perm.length_eq
  have h2 : ∀ (l : List Nod) (j : Nat), l[j]? = some x → x.kids.length ≤ (l.flatMap (·.kids)).length := fun l => by
    induction l with
    | nil => intro j h; simp at h
    | cons y l ih =>
      intro j h
      rw [List.flatMap_cons, List.length_append]
      cases j with
      | zero => simp at h; subst h; omega
      | succ j => have := ih j (by simpa using h); omega
  have h3 := h2 ns j hx
  simp only [List.length_map, List.length_range] at h1
  omega
theorem Pol.name_of {p : ByteArray} (h : rpatB p.data.toList = true) : isB (ofP p) = true := by
  unfold ofP
  rcases rpat_cases h with hn | hs
  · rw [star_false_of_name hn]; exact hn
  · rw [if_pos hs, ← starOf_eq hs]; exact (starOf_name hs).1
theorem Pol.path_len {p : ByteArray} (h : rpatB p.data.toList = true) : (pathP p).length ≤ 8 ∧ (pathP p).length = (cut (ofP p)).length := by
  have h1 := (isB_iff.1 (name_of h)).2.1
  unfold pathP revL
  simp only [List.length_map, List.length_reverse]
  exact ⟨h1, trivial⟩
/-- The labels from the last one on. -/
theorem Pol.path_get {p : ByteArray} {j n : Nat} {x : Str} (hn : (cut (ofP p)).length = n) (hj : j < n) (hx : (cut (ofP p))[j]? = some x) : (pathP p)[n - (j + 1)]? = some ⟨x.toArray⟩ := by
  unfold pathP revL
  rw [List.getElem?_map, List.getElem?_reverse (by omega), hn, show n - 1 - (n - (j + 1)) = j by omega, hx]; rfl
theorem grow_eq {ns : List Nod} {n : Nat} {lab : ByteArray} (h : n < ns.length) : (ns ++ [blankN lab]).modify n (fun x => { x with kids := x.kids ++ [(ns.length : Int)] }) = growT ns n lab := by
  unfold growT addKid
  have hx : ns[n]? = some ns[n] := List.getElem?_eq_getElem h
  rw [modify_set (x := ns[n]) (by rw [List.getElem?_append_left h]; exact hx), modify_set hx, List.set_append_left _ _ h]
theorem stepT_some {ns : List Nod} {n : Nat} {x : Nod} {lab : ByteArray} {q : Int} (hx : ns[n]? = some x) (h : kidIn ns lab x.kids = some q) : Pol.stepT (ns, n) lab = (ns, q.toNat) := by
  unfold Pol.stepT; simp only [hx, h]
theorem stepT_none {ns : List Nod} {n : Nat} {x : Nod} {lab : ByteArray} (hx : ns[n]? = some x) (h : kidIn ns lab x.kids = none) : Pol.stepT (ns, n) lab = (growT ns n lab, ns.length) := by
  unfold Pol.stepT; simp only [hx, h]
theorem Tryz.infoNode : (Tryz.prog.info? 62).map (fun i => (i.zero, i.size, i.bytes)) = some (some (.agg #[.string ⟨#[]⟩, .int .i64 0, .int .i64 0, .slice none 0 0]), 4, 56) := by kernel_rfl
/-- Nodes are handed back, of the call's own. -/
def RetN (base : Nat) (ns : List Nod) (w : World) (e : Ending) (w' : World) : Prop := ∃ v kvs, e = .returned v ∧ NodesOwn w' base v ns kvs ∧ Below base w w'
set_option maxRecDepth 100000 in
set_option maxHeartbeats 8000000 in
theorem put_any (ns : List Nod) (kvs : List Value) (p : ByteArray) (i : Nat) (v : Value) (base : Nat) (w : World) (hp : rpatB p.data.toList = true) (hps : p.size ≤ 9223372036854775807) (hT : ∃ ps, Tree ns ps) (hown : NodesOwn w base v ns kvs) (hb : base ≤ w.heap.size) (hfew : ns.length ≤ 100000000) :
    Calls Tryz.prog 59 #[v, .string p, .int .i64 (i : Int)] w (RetN base (putT ns p i) w) := by
  obtain ⟨i0, hi, hz0, hz1, hz2⟩ := info_parts Tryz.infoNode
  obtain ⟨i1, gi, gz0, gz1, gz2⟩ := info_parts Tryz.infoInt
  obtain ⟨n0, hn0⟩ : ∃ n, (cut (ofP p)).length = n := ⟨_, rfl⟩
  have HT := Lib.hid hT; have HOWN := Lib.hid hown; have HB := Lib.hid hb; have HP := Lib.hid hp; have HN0 := Lib.hid hn0
  have hpl := path_len hp
  rw [hn0] at hpl
  have h8 : n0 ≤ 8 := by omega
  have h1 : 1 ≤ n0 := by rw [← hn0]; exact List.length_pos_iff.2 (cut_ne _)
  have HPL := Lib.hid hpl.2
  have HNM := Lib.hid (name_of hp)
  obtain ⟨O, hO⟩ : ∃ O : ByteArray, O.data.toList = ofP p := ⟨⟨(ofP p).toArray⟩, rfl⟩
  have HO := Lib.hid hO
  have hOs : O.size ≤ 9223372036854775807 := by
    rw [Lib.size_eq, hO]
    have := (isB_iff.1 (name_of hp)).1
    omega
  clear hT hown hb hn0 hpl hO
  cases hst : starB p.data.toList
  all_goals
    have HST := Lib.hid hst
    go_enter Tryz.func59, Tryz.ntmps59
  · have HOP := Lib.hid (show O = p by
      refine bytes_eq ?_
      rw [HO.out]; unfold ofP; rw [hst]; rfl)
    clear hst
    go_wp2_with (first
      | (go_at_call 91; refine (rStar_any p _ hps).mono ?_; rintro e w1 ⟨rfl, hE1⟩; rw [HST.out]; have HE1 := Lib.hid hE1; clear hE1)
      | (go_at_call 92; rw [← HOP.out]; refine (rLabels_own O _ hOs).mono ?_; rintro e w2 ⟨lv, rfl, hlv, hE2⟩; rw [HO.out, HNM.out, if_pos rfl, List.length_map, HN0.out] at hlv
         obtain ⟨lb, lc, rfl, hlc1, hlc2⟩ : ∃ lb lc, lv = .slice (some ⟨lb, 0, none⟩) n0 lc ∧ n0 ≤ lc ∧ lc ≤ maxLen := by
           rcases own_form hlv with ⟨_, h, _⟩ | ⟨lb, lc, h, _, _, _, h1, h2⟩
           · omega
           · exact ⟨lb, lc, h, h1, h2⟩
         have HLV := Lib.hid (own_base hlv (Nat.zero_le _)); have HE2 := Lib.hid (ext_trans HE1.out hE2)
         unfold maxLen at hlc2
         clear hlv hE2))
    go_loopw [11, 0, 10] (fun i v n wr => ∃ (r : Nat) (ns' : List Nod) (n' : Nat) (kvs' : List Value), BkI i r ∧ r ≤ n0 ∧ n = .int .i64 n' ∧ downT ns ((pathP p).take (n0 - r)) = (ns', n') ∧ NodesOwn wr base v ns' kvs' ∧ Below base w wr ∧ wr.ownsRow 0 9 1 (.slice (some ⟨lb, 0, none⟩) n0 lc) n0 ((cut (ofP p)).map strV)) (fun i _ _ _ => (intOf i + 1).toNat)
    case atStart => exact ⟨n0, ns, 0, kvs, bkI_pred n0, Nat.le_refl _, rfl, by rw [Nat.sub_self]; rfl, HOWN.out.ext HE2.out, HE2.out.mono HB.out, HLV.out⟩
    case round =>
      obtain ⟨r, ns', n', kvs', hbk, hr, rfl, hdn, hown, hbl, hlr⟩ := hrel
      have HDN := Lib.hid hdn; have HO' := Lib.hid hown; have HBL := Lib.hid hbl; have HLR := Lib.hid hlr
      have hsz := hbl.size
      have hb0 := HB.out
      obtain ⟨ps, hps0⟩ := HT.out
      obtain ⟨ps', ht', hn'⟩ := down_tree hps0 ((pathP p).take (n0 - r))
      rw [hdn] at ht' hn'
      simp only at ht' hn'
      have hnl : n' < ns'.length := by rw [← ht'.len]; exact (List.getElem?_eq_some_iff.1 hn').1
      have hlen : ns'.length ≤ 100000008 := by
        have := down_len ((pathP p).take (n0 - r)) (ns, 0)
        unfold downT at hdn
        rw [hdn, List.length_take] at this
        simp only at this; omega
      obtain ⟨g', cap', hv', hg1, hg2, hg3, hg4⟩ := hown.form (by intro e; rw [e] at hnl; simp at hnl)
      subst hv'
      have HTT := Lib.hid ht'; have HNP := Lib.hid hn'
      clear hdn hown hbl hlr ht' hn' hps0
      have HG4 := Lib.hid hg4
      unfold maxLen at hg4
      obtain ⟨x, hx⟩ := get_some (l := ns') (n := ns'.length) rfl hnl
      have HX := Lib.hid hx
      rcases hbk with ⟨rfl, rfl⟩ | ⟨j, rfl, rfl⟩
      · have HD := Lib.hid (show downT ns (pathP p) = (ns', n') by have := HDN.out; rwa [Nat.sub_zero, List.take_of_length_le (by rw [HPL.out]; exact Nat.le_refl _)] at this)
        obtain ⟨kv, hkv, _⟩ := HO'.out.kv hx
        obtain ⟨c0, c1, c2, c3⟩ := HO'.out.cells rfl hx hkv
        have fz1 := HO'.out.row.frozenAt (n' * 4 + 1)
        have fz2 := HO'.out.row.frozenAt (n' * 4 + 2)
        clear hx hkv
        go_wp2_with fail
        go_ret
        refine ⟨_, kvs', rfl, ?_, HBL.out.setCell (p := ⟨g', n' * 4 + 1, none⟩) (by simpa using hg1) _⟩
        unfold putT
        rw [HD.out, HST.out]
        exact HO'.out.set rfl HX.out false i
      · have hjn : j < n0 := by omega
        obtain ⟨xl, hxl⟩ := get_some HN0.out hjn
        have hlab := path_get HN0.out hjn hxl
        have hcell : wr.cell? ⟨lb, j, none⟩ = some (.string ⟨xl.toArray⟩) := own_cell HLR.out rfl (strV_get hxl)
        obtain ⟨lab, hle⟩ : ∃ lab : ByteArray, (⟨xl.toArray⟩ : ByteArray) = lab := ⟨_, rfl⟩
        rw [hle] at hlab hcell
        have hlabs : lab.size ≤ maxLen := by
          have h1 := (isB_iff.1 HNM.out).2.2 xl (List.mem_of_getElem? hxl)
          unfold labelB at h1
          simp only [Bool.and_eq_true, decide_eq_true_eq] at h1
          rw [← hle, size_bs]
          unfold maxLen; omega
        have hstep : downT ns ((pathP p).take (n0 - j)) = Pol.stepT (ns', n') lab := by
          have h1 := foldl_take_snoc hlab Pol.stepT (ns, 0)
          rw [show n0 - (j + 1) + 1 = n0 - j by omega] at h1
          unfold downT
          rw [h1]
          have h2 := HDN.out
          unfold downT at h2
          rw [h2]
        obtain ⟨na, nc, hnv, hnc1, hnc2, hnods⟩ := HO'.out.nods
        cases hnv
        have HND := Lib.hid hnods; have HSTEP := Lib.hid hstep; have HLS := Lib.hid hlabs
        have HKI := Lib.hid (HTT.out.kidsIn hx)
        have hjc : j ≤ lc := by omega
        clear hxl hlab hle hlabs hstep hnods
        cases hq : kidIn ns' lab x.kids with
        | some q =>
          obtain ⟨m, rfl, _, hm⟩ := HTT.out.kid_some hx HNP.out hq
          have HK := Lib.hid (show (kidIn ns' lab x.kids).getD (-1) = (m : Int) by rw [hq]; rfl)
          have HS2 := Lib.hid ((HSTEP.out).trans (stepT_some hx hq))
          clear hx hq hm
          go_wp2_with (go_at_call 93; refine (r16kid_any ns' lab (some ⟨g', 0, none⟩) cap' ns'.length n' x _ rfl hg3 HG4.out HND.out HX.out HKI.out).mono ?_; rintro e w3 ⟨rfl, hE3⟩; rw [HK.out]; have HE3 := Lib.hid hE3; clear hE3)
          go_roundw
          case rel => exact ⟨j, ns', m, kvs', bkI_pred j, by omega, rfl, by rw [HS2.out, Int.toNat_natCast], HO'.out.ext HE3.out, HBL.out.trans (HE3.out.mono (by omega)), own_ext HLR.out HE3.out⟩
          case measure => simp [intOf] <;> omega
        | none =>
          have HK := Lib.hid (show (kidIn ns' lab x.kids).getD (-1) = (-1 : Int) by rw [hq]; rfl)
          have HS2 := Lib.hid ((HSTEP.out).trans (stepT_none hx hq))
          obtain ⟨kv, hkv, _⟩ := HO'.out.kv hx
          have HKV := Lib.hid hkv
          have hkl := HTT.out.kids_le hx
          have HNL := Lib.hid hnl
          clear hx hq hkv
          go_wp2_with (first
            | (go_at_call 93; refine (r16kid_any ns' lab (some ⟨g', 0, none⟩) cap' ns'.length n' x _ rfl hg3 HG4.out HND.out HX.out HKI.out).mono ?_; rintro e w3 ⟨rfl, hE3⟩; rw [HK.out]
               have hc3 : w3.cell? ⟨lb, j, none⟩ = some (.string lab) := ext_cell hcell hE3
               have H3 := Lib.hid (HO'.out.ext hE3); have HB3 := Lib.hid (HBL.out.trans (hE3.mono (by omega))); have HL3 := Lib.hid (own_ext HLR.out hE3)
               have hs3 := hE3.size
               clear hE3)
            | (at_builtin; refine wpList_append_own _ rfl _ _ 43 rfl base 62 i0 (.agg #[.string ⟨#[]⟩, .int .i64 0, .int .i64 0, .slice none 0 0]) 4 56 Tryz.underlying43 hi hz0 hz1 hz2 rfl (by decide) _ _ _ rfl (H3.out.row.alloc _) ⟨w3.heap.size, 0, none⟩ 1 1 [.string lab, .int .i64 (-1), .int .i64 (-1), .slice none 0 0] rfl rfl (four_cells_new _ _ _ _ _ _) (by simp [Value.oneCell']) (by unfold maxLen; omega) (by omega) (by simp; omega) ?_
               intro v5 w5 hown5 hgrow5 _
               obtain ⟨g5, cap5, rfl⟩ := own_succ hown5
               have h5 := (H3.out.ext (ext_alloc (Below.refl _ _) (Obj.cells #[.string lab, .int .i64 (-1), .int .i64 (-1), .slice none 0 0] 62))).push HLS.out hown5 hgrow5
               have hx5 : (ns' ++ [blankN lab])[n']? = some x := by rw [List.getElem?_append_left HNL.out]; exact HX.out
               have hk5 : (kvs' ++ [Value.slice none 0 0])[n']? = some kv := by rw [List.getElem?_append_left (by rw [HO'.out.len]; exact HNL.out)]; exact HKV.out
               obtain ⟨p0, p1, p2, p3⟩ := h5.cells (g := g5) (cap := cap5) (by simp) hx5 hk5
               have HK5 := Lib.hid (h5.kids n' x kv hx5 hk5)
               have HX5 := Lib.hid hx5; have HKK5 := Lib.hid hk5
               have HG5 := Lib.hid (own_ge h5.row g5 rfl)
               have HB5 := Lib.hid ((HB3.out.alloc (by omega) (Obj.cells #[.string lab, .int .i64 (-1), .int .i64 (-1), .slice none 0 0] 62)).grown hgrow5 (by simp; omega) (own_ge H3.out.row))
               have HL5 := Lib.hid ((HL3.out.alloc (Obj.cells #[.string lab, .int .i64 (-1), .int .i64 (-1), .slice none 0 0] 62)).kept hgrow5 (own_apart HL3.out H3.out.row (by decide)))
               have hs5 := HB5.out.size
               have hcap5 : ns'.length + 1 ≤ cap5 := by
                 rcases own_form hown5 with ⟨h, _⟩ | ⟨_, c, h, _, _, _, h1, _⟩
                 · cases h
                 · cases h; exact h1
               have H5 := Lib.hid h5
               clear hown5 hgrow5 h5 hx5 hk5 hc3)
            | (at_builtin; refine wpList_append_own_at _ rfl _ _ 30 rfl base 3 i1 (.int .i64 0) 1 8 Tryz.underlying30 gi gz0 gz1 gz2 rfl (by decide) kv _ _ rfl (HK5.out.alloc _) ⟨w5.heap.size, 0, none⟩ 1 1 [.int .i64 (ns'.length : Int)] rfl rfl (one_cell_new _ _ _) (by simp [Value.oneCell']) (by unfold maxLen; omega) (by omega) (by simp; omega) ?_
               intro v6 w6 hown6 hgrow6 _ hat6
               obtain ⟨g6, cap6, rfl⟩ := own_succ hown6
               have h6 := H5.out.ext (ext_alloc (Below.refl _ w5) (Obj.cells #[.int .i64 (ns'.length : Int)] 3))
               have hk6 := h6.kids n' x kv HX5.out HKK5.out
               have hr6 := h6.row.kept hgrow6 (own_apart h6.row hk6 (by decide))
               have fz6 : w6.frozen? ⟨g5, n' * 4 + 3, none⟩ = false := by have := hr6; rw [List.length_append] at this; exact this.frozenAt _
               have hz6 : ((ns' ++ [blankN lab]).zip (kvs' ++ [Value.slice none 0 0]))[n']? = some (x, kv) := List.getElem?_zip_eq_some.2 ⟨HX5.out, HKK5.out⟩
               have c6 : w6.cell? ⟨g5, n' * 4 + 3, none⟩ = some kv := own_cell hr6 rfl (by rw [flat_get (f := nodC) (fun _ => rfl) 3 hz6 (by decide)]; rfl)
               have H7 := Lib.hid (h6.kid (g := g5) (cap := cap5) (j := n') (k := (ns'.length : Int)) (by simp) HX5.out HKK5.out hown6 hgrow6 hat6)
               have HB7 := Lib.hid ((HB5.out.alloc (by omega) (Obj.cells #[.int .i64 (ns'.length : Int)] 3)).grown hgrow6 (by simp; omega) (own_ge hk6))
               have HL7 := Lib.hid ((HL5.out.alloc (Obj.cells #[.int .i64 (ns'.length : Int)] 3)).kept hgrow6 (own_apart (HL5.out.alloc (Obj.cells #[.int .i64 (ns'.length : Int)] 3)) hk6 (by decide)))
               have HR7 := Lib.hid hr6
               clear hown6 hgrow6 hat6 h6 hk6 hr6 hz6 p0 p1 p2 p3))
          go_roundw
          case rel =>
            refine ⟨j, growT ns' n' lab, ns'.length, _, bkI_pred j, by omega, rfl, HS2.out, by rw [← grow_eq HNL.out]; exact H7.out, HB7.out.setCell (p := ⟨g5, n' * 4 + 3, none⟩) (by simpa using HG5.out) _, own_fr HL7.out (Fr.setCell (S := fun b => b = g5) _ _ _ rfl) fun b hb e => ?_⟩
            rcases own_apart HL7.out HR7.out (by decide) with e1 | e1
            · cases e1
            · exact e1 (by rw [hb, e]; rfl)
          case measure => simp [intOf] <;> omega
  · have HOP := Lib.hid (show O = ⟨(starOf p.data.toList).toArray⟩ by
      refine bytes_eq ?_
      rw [HO.out]; unfold ofP; rw [if_pos hst, starOf_eq hst])
    clear hst
    go_wp2_with (first
      | (go_at_call 91; refine (rStar_any p _ hps).mono ?_; rintro e w1 ⟨rfl, hE1⟩; rw [HST.out]; rw [← HOP.out]; have HE1 := Lib.hid hE1; clear hE1)
      | (go_at_call 92; refine (rLabels_own O _ hOs).mono ?_; rintro e w2 ⟨lv, rfl, hlv, hE2⟩; rw [HO.out, HNM.out, if_pos rfl, List.length_map, HN0.out] at hlv
         obtain ⟨lb, lc, rfl, hlc1, hlc2⟩ : ∃ lb lc, lv = .slice (some ⟨lb, 0, none⟩) n0 lc ∧ n0 ≤ lc ∧ lc ≤ maxLen := by
           rcases own_form hlv with ⟨_, h, _⟩ | ⟨lb, lc, h, _, _, _, h1, h2⟩
           · omega
           · exact ⟨lb, lc, h, h1, h2⟩
         have HLV := Lib.hid (own_base hlv (Nat.zero_le _)); have HE2 := Lib.hid (ext_trans HE1.out hE2)
         unfold maxLen at hlc2
         clear hlv hE2))
    go_loopw [11, 0, 10] (fun i v n wr => ∃ (r : Nat) (ns' : List Nod) (n' : Nat) (kvs' : List Value), BkI i r ∧ r ≤ n0 ∧ n = .int .i64 n' ∧ downT ns ((pathP p).take (n0 - r)) = (ns', n') ∧ NodesOwn wr base v ns' kvs' ∧ Below base w wr ∧ wr.ownsRow 0 9 1 (.slice (some ⟨lb, 0, none⟩) n0 lc) n0 ((cut (ofP p)).map strV)) (fun i _ _ _ => (intOf i + 1).toNat)
    case atStart => exact ⟨n0, ns, 0, kvs, bkI_pred n0, Nat.le_refl _, rfl, by rw [Nat.sub_self]; rfl, HOWN.out.ext HE2.out, HE2.out.mono HB.out, HLV.out⟩
    case round =>
      obtain ⟨r, ns', n', kvs', hbk, hr, rfl, hdn, hown, hbl, hlr⟩ := hrel
      have HDN := Lib.hid hdn; have HO' := Lib.hid hown; have HBL := Lib.hid hbl; have HLR := Lib.hid hlr
      have hsz := hbl.size
      have hb0 := HB.out
      obtain ⟨ps, hps0⟩ := HT.out
      obtain ⟨ps', ht', hn'⟩ := down_tree hps0 ((pathP p).take (n0 - r))
      rw [hdn] at ht' hn'
      simp only at ht' hn'
      have hnl : n' < ns'.length := by rw [← ht'.len]; exact (List.getElem?_eq_some_iff.1 hn').1
      have hlen : ns'.length ≤ 100000008 := by
        have := down_len ((pathP p).take (n0 - r)) (ns, 0)
        unfold downT at hdn
        rw [hdn, List.length_take] at this
        simp only at this; omega
      obtain ⟨g', cap', hv', hg1, hg2, hg3, hg4⟩ := hown.form (by intro e; rw [e] at hnl; simp at hnl)
      subst hv'
      have HTT := Lib.hid ht'; have HNP := Lib.hid hn'
      clear hdn hown hbl hlr ht' hn' hps0
      have HG4 := Lib.hid hg4
      unfold maxLen at hg4
      obtain ⟨x, hx⟩ := get_some (l := ns') (n := ns'.length) rfl hnl
      have HX := Lib.hid hx
      rcases hbk with ⟨rfl, rfl⟩ | ⟨j, rfl, rfl⟩
      · have HD := Lib.hid (show downT ns (pathP p) = (ns', n') by have := HDN.out; rwa [Nat.sub_zero, List.take_of_length_le (by rw [HPL.out]; exact Nat.le_refl _)] at this)
        obtain ⟨kv, hkv, _⟩ := HO'.out.kv hx
        obtain ⟨c0, c1, c2, c3⟩ := HO'.out.cells rfl hx hkv
        have fz1 := HO'.out.row.frozenAt (n' * 4 + 1)
        have fz2 := HO'.out.row.frozenAt (n' * 4 + 2)
        clear hx hkv
        go_wp2_with fail
        go_ret
        refine ⟨_, kvs', rfl, ?_, HBL.out.setCell (p := ⟨g', n' * 4 + 2, none⟩) (by simpa using hg1) _⟩
        unfold putT
        rw [HD.out, HST.out]
        exact HO'.out.set rfl HX.out true i
      · have hjn : j < n0 := by omega
        obtain ⟨xl, hxl⟩ := get_some HN0.out hjn
        have hlab := path_get HN0.out hjn hxl
        have hcell : wr.cell? ⟨lb, j, none⟩ = some (.string ⟨xl.toArray⟩) := own_cell HLR.out rfl (strV_get hxl)
        obtain ⟨lab, hle⟩ : ∃ lab : ByteArray, (⟨xl.toArray⟩ : ByteArray) = lab := ⟨_, rfl⟩
        rw [hle] at hlab hcell
        have hlabs : lab.size ≤ maxLen := by
          have h1 := (isB_iff.1 HNM.out).2.2 xl (List.mem_of_getElem? hxl)
          unfold labelB at h1
          simp only [Bool.and_eq_true, decide_eq_true_eq] at h1
          rw [← hle, size_bs]
          unfold maxLen; omega
        have hstep : downT ns ((pathP p).take (n0 - j)) = Pol.stepT (ns', n') lab := by
          have h1 := foldl_take_snoc hlab Pol.stepT (ns, 0)
          rw [show n0 - (j + 1) + 1 = n0 - j by omega] at h1
          unfold downT
          rw [h1]
          have h2 := HDN.out
          unfold downT at h2
          rw [h2]
        obtain ⟨na, nc, hnv, hnc1, hnc2, hnods⟩ := HO'.out.nods
        cases hnv
        have HND := Lib.hid hnods; have HSTEP := Lib.hid hstep; have HLS := Lib.hid hlabs
        have HKI := Lib.hid (HTT.out.kidsIn hx)
        have hjc : j ≤ lc := by omega
        clear hxl hlab hle hlabs hstep hnods
        cases hq : kidIn ns' lab x.kids with
        | some q =>
          obtain ⟨m, rfl, _, hm⟩ := HTT.out.kid_some hx HNP.out hq
          have HK := Lib.hid (show (kidIn ns' lab x.kids).getD (-1) = (m : Int) by rw [hq]; rfl)
          have HS2 := Lib.hid ((HSTEP.out).trans (stepT_some hx hq))
          clear hx hq hm
          go_wp2_with (go_at_call 93; refine (r16kid_any ns' lab (some ⟨g', 0, none⟩) cap' ns'.length n' x _ rfl hg3 HG4.out HND.out HX.out HKI.out).mono ?_; rintro e w3 ⟨rfl, hE3⟩; rw [HK.out]; have HE3 := Lib.hid hE3; clear hE3)
          go_roundw
          case rel => exact ⟨j, ns', m, kvs', bkI_pred j, by omega, rfl, by rw [HS2.out, Int.toNat_natCast], HO'.out.ext HE3.out, HBL.out.trans (HE3.out.mono (by omega)), own_ext HLR.out HE3.out⟩
          case measure => simp [intOf] <;> omega
        | none =>
          have HK := Lib.hid (show (kidIn ns' lab x.kids).getD (-1) = (-1 : Int) by rw [hq]; rfl)
          have HS2 := Lib.hid ((HSTEP.out).trans (stepT_none hx hq))
          obtain ⟨kv, hkv, _⟩ := HO'.out.kv hx
          have HKV := Lib.hid hkv
          have hkl := HTT.out.kids_le hx
          have HNL := Lib.hid hnl
          clear hx hq hkv
          go_wp2_with (first
            | (go_at_call 93; refine (r16kid_any ns' lab (some ⟨g', 0, none⟩) cap' ns'.length n' x _ rfl hg3 HG4.out HND.out HX.out HKI.out).mono ?_; rintro e w3 ⟨rfl, hE3⟩; rw [HK.out]
               have hc3 : w3.cell? ⟨lb, j, none⟩ = some (.string lab) := ext_cell hcell hE3
               have H3 := Lib.hid (HO'.out.ext hE3); have HB3 := Lib.hid (HBL.out.trans (hE3.mono (by omega))); have HL3 := Lib.hid (own_ext HLR.out hE3)
               have hs3 := hE3.size
               clear hE3)
            | (at_builtin; refine wpList_append_own _ rfl _ _ 43 rfl base 62 i0 (.agg #[.string ⟨#[]⟩, .int .i64 0, .int .i64 0, .slice none 0 0]) 4 56 Tryz.underlying43 hi hz0 hz1 hz2 rfl (by decide) _ _ _ rfl (H3.out.row.alloc _) ⟨w3.heap.size, 0, none⟩ 1 1 [.string lab, .int .i64 (-1), .int .i64 (-1), .slice none 0 0] rfl rfl (four_cells_new _ _ _ _ _ _) (by simp [Value.oneCell']) (by unfold maxLen; omega) (by omega) (by simp; omega) ?_
               intro v5 w5 hown5 hgrow5 _
               obtain ⟨g5, cap5, rfl⟩ := own_succ hown5
               have h5 := (H3.out.ext (ext_alloc (Below.refl _ _) (Obj.cells #[.string lab, .int .i64 (-1), .int .i64 (-1), .slice none 0 0] 62))).push HLS.out hown5 hgrow5
               have hx5 : (ns' ++ [blankN lab])[n']? = some x := by rw [List.getElem?_append_left HNL.out]; exact HX.out
               have hk5 : (kvs' ++ [Value.slice none 0 0])[n']? = some kv := by rw [List.getElem?_append_left (by rw [HO'.out.len]; exact HNL.out)]; exact HKV.out
               obtain ⟨p0, p1, p2, p3⟩ := h5.cells (g := g5) (cap := cap5) (by simp) hx5 hk5
               have HK5 := Lib.hid (h5.kids n' x kv hx5 hk5)
               have HX5 := Lib.hid hx5; have HKK5 := Lib.hid hk5
               have HG5 := Lib.hid (own_ge h5.row g5 rfl)
               have HB5 := Lib.hid ((HB3.out.alloc (by omega) (Obj.cells #[.string lab, .int .i64 (-1), .int .i64 (-1), .slice none 0 0] 62)).grown hgrow5 (by simp; omega) (own_ge H3.out.row))
               have HL5 := Lib.hid ((HL3.out.alloc (Obj.cells #[.string lab, .int .i64 (-1), .int .i64 (-1), .slice none 0 0] 62)).kept hgrow5 (own_apart HL3.out H3.out.row (by decide)))
               have hs5 := HB5.out.size
               have hcap5 : ns'.length + 1 ≤ cap5 := by
                 rcases own_form hown5 with ⟨h, _⟩ | ⟨_, c, h, _, _, _, h1, _⟩
                 · cases h
                 · cases h; exact h1
               have H5 := Lib.hid h5
               clear hown5 hgrow5 h5 hx5 hk5 hc3)
            | (at_builtin; refine wpList_append_own_at _ rfl _ _ 30 rfl base 3 i1 (.int .i64 0) 1 8 Tryz.underlying30 gi gz0 gz1 gz2 rfl (by decide) kv _ _ rfl (HK5.out.alloc _) ⟨w5.heap.size, 0, none⟩ 1 1 [.int .i64 (ns'.length : Int)] rfl rfl (one_cell_new _ _ _) (by simp [Value.oneCell']) (by unfold maxLen; omega) (by omega) (by simp; omega) ?_
               intro v6 w6 hown6 hgrow6 _ hat6
               obtain ⟨g6, cap6, rfl⟩ := own_succ hown6
               have h6 := H5.out.ext (ext_alloc (Below.refl _ w5) (Obj.cells #[.int .i64 (ns'.length : Int)] 3))
               have hk6 := h6.kids n' x kv HX5.out HKK5.out
               have hr6 := h6.row.kept hgrow6 (own_apart h6.row hk6 (by decide))
               have fz6 : w6.frozen? ⟨g5, n' * 4 + 3, none⟩ = false := by have := hr6; rw [List.length_append] at this; exact this.frozenAt _
               have hz6 : ((ns' ++ [blankN lab]).zip (kvs' ++ [Value.slice none 0 0]))[n']? = some (x, kv) := List.getElem?_zip_eq_some.2 ⟨HX5.out, HKK5.out⟩
               have c6 : w6.cell? ⟨g5, n' * 4 + 3, none⟩ = some kv := own_cell hr6 rfl (by rw [flat_get (f := nodC) (fun _ => rfl) 3 hz6 (by decide)]; rfl)
               have H7 := Lib.hid (h6.kid (g := g5) (cap := cap5) (j := n') (k := (ns'.length : Int)) (by simp) HX5.out HKK5.out hown6 hgrow6 hat6)
               have HB7 := Lib.hid ((HB5.out.alloc (by omega) (Obj.cells #[.int .i64 (ns'.length : Int)] 3)).grown hgrow6 (by simp; omega) (own_ge hk6))
               have HL7 := Lib.hid ((HL5.out.alloc (Obj.cells #[.int .i64 (ns'.length : Int)] 3)).kept hgrow6 (own_apart (HL5.out.alloc (Obj.cells #[.int .i64 (ns'.length : Int)] 3)) hk6 (by decide)))
               have HR7 := Lib.hid hr6
               clear hown6 hgrow6 hat6 h6 hk6 hr6 hz6 p0 p1 p2 p3))
          go_roundw
          case rel =>
            refine ⟨j, growT ns' n' lab, ns'.length, _, bkI_pred j, by omega, rfl, HS2.out, by rw [← grow_eq HNL.out]; exact H7.out, HB7.out.setCell (p := ⟨g5, n' * 4 + 3, none⟩) (by simpa using HG5.out) _, own_fr HL7.out (Fr.setCell (S := fun b => b = g5) _ _ _ rfl) fun b hb e => ?_⟩
            rcases own_apart HL7.out HR7.out (by decide) with e1 | e1
            · cases e1
            · exact e1 (by rw [hb, e]; rfl)
          case measure => simp [intOf] <;> omega
end Go.Proofs.YtmdmbdbbpdojnaaGreatDoor
