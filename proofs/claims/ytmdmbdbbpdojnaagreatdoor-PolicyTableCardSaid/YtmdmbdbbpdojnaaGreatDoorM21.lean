/- Walks of the document's functions on policies: Compile. Walks: policy.walker's function: down the tree. A region that draws its order, within a fence: what holds of the world turns with the operations that have run; walked once, in the order of the text. For Compile's walk: nodes of one's own, within rounds; the region in which a node gets a kid. -/
import Derived.Test.YtmdmbdbbpdojnaaGreatDoorM18
import Derived.Test.YtmdmbdbbpdojnaaGreatDoorM20
import Derived.Test.YtmdmbdbbpdojnaaGreatDoorM08
import Derived.OrdersIn
namespace Go.Proofs.YtmdmbdbbpdojnaaGreatDoor
open Go.RowKit Nam Pol Go.Maps
attribute [local go_sem] gv_of

/-- A table in a block of its own. -/
def TabB (w : World) (b : Nat) (rv nv : Value) : Prop := w.heap[b]? = some (.cells #[rv, nv] 45 (0, 0))
theorem TabB.cells {w : World} {b : Nat} {rv nv : Value} (h : TabB w b rv nv) : w.cell? ⟨b, 0, none⟩ = some rv ∧ w.cell? ⟨b, 1, none⟩ = some nv := by
  unfold TabB at h
  simp [World.cell?, h]
theorem TabB.frozen {w : World} {b : Nat} {rv nv : Value} (h : TabB w b rv nv) (j : Nat) : w.frozen? ⟨b, j, none⟩ = false := frozen_of_row w b j _ _ h
theorem TabB.lt {w : World} {b : Nat} {rv nv : Value} (h : TabB w b rv nv) : b < w.heap.size := (Array.getElem?_eq_some_iff.1 h).1
theorem TabB.set0 {w : World} {b : Nat} {rv nv : Value} (h : TabB w b rv nv) (x : Value) : TabB (w.setCell ⟨b, 0, none⟩ x) b x nv := (heap_setCell_same w b 0 _ _ _ h).trans (by simp)
theorem TabB.set1 {w : World} {b : Nat} {rv nv : Value} (h : TabB w b rv nv) (x : Value) : TabB (w.setCell ⟨b, 1, none⟩ x) b rv x := (heap_setCell_same w b 1 _ _ _ h).trans (by simp)
theorem TabB.ext {w w' : World} {b : Nat} {rv nv : Value} (h : TabB w b rv nv) (hE : Ext w w') : TabB w' b rv nv := (hE.block b h.lt).trans h
theorem TabB.fr {S : Nat → Prop} {w w' : World} {b : Nat} {rv nv : Value} (h : TabB w b rv nv) (hF : Fr S w w') (hs : ¬ S b) : TabB w' b rv nv := (hF.block b h.lt hs).trans h
theorem TabB.new (w : World) (rv nv : Value) : TabB (w.alloc (.cells #[rv, nv] 45)) w.heap.size rv nv := World.alloc_heap_new w _
/-- A table and an error number are handed back. -/
def RetTab (rs : List Rul) (ns : List Nod) (n : Int) (w : World) (e : Ending) (w' : World) : Prop := ∃ rv nv, e = .returned (.tuple #[.agg #[rv, nv], .int .i64 n]) ∧ SlV 7 RulAt w' rv rs ∧ SlV 4 NodAt w' nv ns ∧ Ext w w'
theorem retTab_none {w w4 : World} {n : Int} (hE : Ext w w4) : RetTab [] [] n w (.returned (.tuple #[.agg #[.slice none 0 0, .slice none 0 0], .int .i64 n])) w4 :=
  ⟨_, _, rfl, ⟨none, 0, rfl, Nat.le_refl _, Nat.zero_le _, SlA.nil _ _ _ _⟩, ⟨none, 0, rfl, Nat.le_refl _, Nat.zero_le _, SlA.nil _ _ _ _⟩, hE⟩
theorem Pol.put_tree {ns : List Nod} (h : ∃ ps, Tree ns ps) (p : ByteArray) (i : Int) : ∃ ps, Tree (putT ns p i) ps := by
  obtain ⟨ps, h⟩ := h
  obtain ⟨ps', h1, _⟩ := down_tree h (pathP p)
  exact ⟨ps', h1.set _ _ _⟩
theorem Pol.put_len {ns : List Nod} {p : ByteArray} (hp : rpatB p.data.toList = true) (i : Int) : (putT ns p i).length ≤ ns.length + 8 := by
  unfold putT
  rw [setT_length]
  have h1 := down_len (pathP p) (ns, 0)
  have h2 := (path_len hp).1
  unfold downT
  simp only at h1; omega
theorem Pol.putAll_snoc {ns : List Nod} {ps : List ByteArray} {i : Int} {j : Nat} {p : ByteArray} (h : ps[j]? = some p) : putAll ns (ps.take (j + 1)) i = putT (putAll ns (ps.take j) i) p i := by
  unfold putAll; exact foldl_take_snoc h _ _
theorem Pol.treeTo_succ {l : List Rul} {k : Nat} {r : Rul} (h : l[k]? = some r) : treeTo l (k + 1) = putAll (treeTo l k) r.pats k := by rw [treeTo, h]
theorem Pol.Right.few {l : List Rul} (h : Right l) : l.length ≤ 32 ∧ ∀ r ∈ l, r.pats.length ≤ 8 := by
  refine ⟨(checkE_ok h.ok).2, fun r hr => ?_⟩
  have := ((rulesOk_spec (checkE_ok h.ok).1).2 r hr).1
  unfold formB at this
  simp only [Bool.and_eq_true, decide_eq_true_eq] at this
  exact this.1.1.2.2
/-- A new list of one node. -/
theorem nodes_new (w : World) (base : Nat) (hb : base ≤ w.heap.size) : NodesOwn (w.alloc (Obj.cells #[.string ⟨#[]⟩, .int .i64 (-1), .int .i64 (-1), .slice none 0 0] 62)) base (.slice (some ⟨w.heap.size, 0, none⟩) 1 1) [blankN ⟨#[]⟩] [.slice none 0 0] where
  len := rfl
  row := World.ownsRow_lit w #[.string ⟨#[]⟩, .int .i64 (-1), .int .i64 (-1), .slice none 0 0] 1 hb (by decide) rfl
  kids := fun j x kv h1 h2 => by
    cases j with
    | zero => simp at h1 h2; subst h1 h2; exact World.ownsRow_nil _ _ _ _
    | succ j => simp at h1
  apart := fun i j ki kj h1 h2 hne => by
    cases i with
    | zero => simp at h1; subst h1; exact .inl rfl
    | succ i => simp at h1
  sizes := fun x hx => by rw [List.mem_singleton] at hx; subst hx; exact Nat.zero_le _
set_option maxRecDepth 100000 in
set_option maxHeartbeats 4000000 in
theorem r16Compile_any (l : List Rul) (a : Option Addr) (cap n : Nat) (w : World) (hn : l.length = n) (hnc : n ≤ cap) (hcm : cap ≤ maxLen) (hl : Ruls w a l) (hfew : n ≤ 1000) :
    Calls Tryz.prog 26 #[.slice a n cap] w (RetTab (compR l) (compN l) (rightE l) w) := by
  have HN := Lib.hid hn; have HNC := Lib.hid hnc; have HCM := Lib.hid hcm; have HL := Lib.hid hl; have HFE := Lib.hid hfew
  unfold maxLen at hcm
  obtain ⟨x, hx⟩ : ∃ x, rightE l = x := ⟨_, rfl⟩
  have HX := Lib.hid hx
  clear hn hl hx
  go_enter Tryz.func26, Tryz.ntmps26
  go_upto_region 1 with (fail)
  obtain ⟨W0, hW0⟩ : ∃ W0, w.alloc (Obj.cells #[.slice none 0 0, .slice none 0 0] 45) = W0 := ⟨_, rfl⟩
  have hE0 : Ext w W0 := by rw [← hW0]; exact ext_alloc (Below.refl _ _) _
  have hb0 : TabB W0 w.heap.size (.slice none 0 0) (.slice none 0 0) := by rw [← hW0]; exact TabB.new _ _ _
  have HE0 := Lib.hid hE0; have B0 := Lib.hid hb0
  rw [hW0]
  clear hW0 hE0 hb0
  by_cases h0 : x = 0
  · have t0 : (x != 0) = false := by simpa using h0
    have HR := Lib.hid (rightE_iff.1 (HX.out.trans h0))
    have HC := Lib.hid (show compR l = l ∧ compN l = treeOf l from ⟨by unfold compR; rw [if_pos (HX.out.trans h0)], by unfold compN; rw [if_pos (HX.out.trans h0)]⟩)
    have H0 := Lib.hid h0
    clear h0
    go_wp2_with (go_at_call 43; refine (r16right_any l a cap n _ HN.out HNC.out HCM.out (HL.out.ext HE0.out) HFE.out).mono ?_; rintro e w1 ⟨rfl, hE1⟩; rw [HX.out]; have HE1 := Lib.hid hE1; clear hE1)
    have hN0 := nodes_new w1 W0.heap.size HE1.out.size
    have hE2 : Ext W0 (w1.alloc (Obj.cells #[.string ⟨#[]⟩, .int .i64 (-1), .int .i64 (-1), .slice none 0 0] 62)) := ext_alloc HE1.out _
    generalize w1.alloc (Obj.cells #[.string ⟨#[]⟩, .int .i64 (-1), .int .i64 (-1), .slice none 0 0] 62) = W2 at hN0 hE2 ⊢
    have HN0 := Lib.hid hN0; have HE2 := Lib.hid hE2
    clear hN0 hE2
    go_loopw [6, 5] (fun i v wr => ∃ (k : Nat) (kvs : List Value), k ≤ n ∧ i = .int .i64 k ∧ NodesOwn wr W0.heap.size v (treeTo l k) kvs ∧ (∃ ps, Tree (treeTo l k) ps) ∧ (treeTo l k).length ≤ 1 + 64 * k ∧ Ext W0 wr) (fun i _ _ => n - (intOf i).toNat)
    case atStart => exact ⟨0, _, Nat.zero_le _, rfl, HN0.out, ⟨_, Tree.start⟩, Nat.le_refl _, HE2.out⟩
    case round =>
      obtain ⟨k, kvs, hk, rfl, hno, htr, hle, hE⟩ := hrel
      have HNO := Lib.hid hno; have HTR := Lib.hid htr; have HE := Lib.hid hE; have HEW := Lib.hid (ext_trans HE0.out hE)
      have hfw := HR.out.few
      rw [HN.out] at hfw
      have hfw1 := hfw.1
      clear hno htr hE
      by_cases hlt : k < n
      · obtain ⟨r, hr⟩ := get_some HN.out hlt
        obtain ⟨b, off, rfl, _, _, ⟨pa, pc, d2, l1, l2, hps⟩, _⟩ := HL.out k r hr
        have HRR := Lib.hid hr; have HPS := Lib.hid hps; have D2 := Lib.hid d2
        have hp8 := hfw.2 r (List.mem_of_getElem? hr)
        have HVP := Lib.hid ((HR.out.pats (List.mem_of_getElem? hr)).2)
        obtain ⟨np, hnp⟩ : ∃ m, r.pats.length = m := ⟨_, rfl⟩
        have NP := Lib.hid hnp
        rw [hnp] at d2 l1 hp8
        have D2 := Lib.hid d2
        unfold maxLen at l2
        have hkc : k ≤ cap := by omega
        clear hr hps hnp d2 hfw
        go_wp2_with fail
        go_loopw [7, 5] (fun i v wr => ∃ (j : Nat) (kvs : List Value), j ≤ np ∧ i = .int .i64 j ∧ NodesOwn wr W0.heap.size v (putAll (treeTo l k) (r.pats.take j) k) kvs ∧ (∃ ps, Tree (putAll (treeTo l k) (r.pats.take j) k) ps) ∧ (putAll (treeTo l k) (r.pats.take j) k).length ≤ 1 + 64 * k + 8 * j ∧ Ext W0 wr) (fun i _ _ => np - (intOf i).toNat)
        case atStart => exact ⟨0, kvs, Nat.zero_le _, rfl, HNO.out, HTR.out, by simpa [putAll] using hle, HE.out⟩
        case round =>
          obtain ⟨j, kvs, hj, rfl, hno, htr, hle, hE⟩ := hrel
          have HNO := Lib.hid hno; have HTR := Lib.hid htr; have HE := Lib.hid hE
          have d2 := ext_cell D2.out (ext_trans HE0.out hE)
          have hsz := hE.size
          by_cases hlj : j < np
          · obtain ⟨p, hp⟩ := get_some NP.out hlj
            obtain ⟨b', off', rfl, e0, hpz⟩ := (HPS.out.ext (ext_trans HE0.out hE)) j p hp
            rw [Nat.mul_one] at e0
            have HP := Lib.hid (putAll_snoc (ns := treeTo l k) (i := (k : Int)) hp)
            have HV := Lib.hid (HVP.out p (List.mem_of_getElem? hp))
            have hpz' : p.size ≤ 9223372036854775807 := hpz
            have hjc : j ≤ pc := by omega
            clear hno htr hE hp hpz
            go_wp2_with (go_at_call 59; refine (put_any _ kvs p k _ W0.heap.size _ HV.out hpz' HTR.out HNO.out hsz (by omega)).mono ?_; rintro e w3 ⟨v3, kvs3, rfl, hno3, hb3⟩; have HNO3 := Lib.hid hno3; have HB3 := Lib.hid hb3; clear hno3 hb3)
            go_roundw
            case rel => exact ⟨j + 1, kvs3, by omega, by go_num, by rw [HP.out]; exact HNO3.out, by rw [HP.out]; exact put_tree HTR.out _ _, by rw [HP.out]; have := put_len (ns := putAll (treeTo l k) (r.pats.take j) k) HV.out (k : Int); omega, HE.out.trans HB3.out⟩
            case measure => simp [intOf]; omega
          · obtain rfl : j = np := by omega
            have HP := Lib.hid (show putAll (treeTo l k) (r.pats.take j) k = treeTo l (k + 1) by rw [treeTo_succ HRR.out, List.take_of_length_le (by rw [NP.out]; exact Nat.le_refl _)])
            clear hno htr hE
            go_wp2_with fail
            go_roundw
            case rel => exact ⟨k + 1, kvs, by omega, by go_num, by rw [← HP.out]; exact HNO.out, by rw [← HP.out]; exact HTR.out, by rw [← HP.out]; omega, HE.out⟩
            case measure => simp [intOf]; omega
      · obtain rfl : k = n := by omega
        have HT := Lib.hid (show treeTo l k = compN l by rw [HC.out.2]; unfold treeOf; rw [HN.out])
        obtain ⟨na, nc, hv, hnc1, hnc2, hnods⟩ := HNO.out.nods
        subst hv
        have hb := B0.out.ext HE.out
        obtain ⟨q0, q1⟩ := hb.cells
        have fz0 := hb.frozen 0
        have fz1 := hb.frozen 1
        have HB := Lib.hid hb
        have HNA := Lib.hid hnods
        clear hb hnods
        go_wp2_with fail
        obtain ⟨W4, hW4⟩ : ∃ W4, (wr.setCell ⟨w.heap.size, 0, none⟩ (.slice a k cap)).setCell ⟨w.heap.size, 1, none⟩ (.slice na (treeTo l k).length nc) = W4 := ⟨_, rfl⟩
        have hb4 : TabB W4 w.heap.size (.slice a k cap) (.slice na (treeTo l k).length nc) := by rw [← hW4]; exact (HB.out.set0 _).set1 _
        have hx4 : Ext w W4 := by rw [← hW4]; exact ((ext_trans HE0.out HE.out).setCell (p := ⟨w.heap.size, 0, none⟩) (Nat.le_refl _) _).setCell (p := ⟨w.heap.size, 1, none⟩) (Nat.le_refl _) _
        have hn4 : NodesOwn W4 W0.heap.size (.slice na (treeTo l k).length nc) (treeTo l k) kvs := by
          rw [← hW4]
          exact HNO.out.fr ((Fr.setCell (S := fun b => b = w.heap.size) _ _ _ rfl).trans (Fr.setCell _ _ _ rfl)) fun g hg _ e => by have := B0.out.lt; omega
        obtain ⟨q0, q1⟩ := hb4.cells
        rw [hW4]
        refine bodyPost_ret (v := .tuple #[.agg #[.slice a k cap, .slice na (treeTo l k).length nc], .int .i64 0]) (by simp [results, Tryz.results26, go_sem, q0, q1]) rfl ?_
        rw [HX.out, H0.out, HC.out.1, ← HT.out]
        exact ⟨_, _, rfl, ⟨a, cap, by rw [HN.out], by rw [HN.out]; exact hnc, HCM.out, HL.out.ext hx4⟩, hn4.nods, hx4⟩
  · have t0 : (x != 0) = true := by simpa using h0
    have HC := Lib.hid (show compR l = [] ∧ compN l = [] from ⟨by unfold compR; rw [if_neg (by rw [HX.out]; exact h0)], by unfold compN; rw [if_neg (by rw [HX.out]; exact h0)]⟩)
    clear h0
    go_wp2_with (first
      | (go_at_call 43; refine (r16right_any l a cap n _ HN.out HNC.out HCM.out (HL.out.ext HE0.out) HFE.out).mono ?_; rintro e w1 ⟨rfl, hE1⟩; rw [HX.out]
         have hb := B0.out.ext hE1
         obtain ⟨q0, q1⟩ := hb.cells
         have fz0 := hb.frozen 0
         have fz1 := hb.frozen 1
         have HB := Lib.hid hb
         have HE1 := Lib.hid hE1; clear hE1 hb))
    obtain ⟨W4, hW4⟩ : ∃ W4, (w1.setCell ⟨w.heap.size, 0, none⟩ (.slice none 0 0)).setCell ⟨w.heap.size, 1, none⟩ (.slice none 0 0) = W4 := ⟨_, rfl⟩
    have hb4 : TabB W4 w.heap.size (.slice none 0 0) (.slice none 0 0) := by rw [← hW4]; exact (HB.out.set0 _).set1 _
    have hx4 : Ext w W4 := by rw [← hW4]; exact ((ext_trans HE0.out HE1.out).setCell (p := ⟨w.heap.size, 0, none⟩) (Nat.le_refl _) _).setCell (p := ⟨w.heap.size, 1, none⟩) (Nat.le_refl _) _
    obtain ⟨q0, q1⟩ := hb4.cells
    rw [hW4]
    refine bodyPost_ret (v := .tuple #[.agg #[.slice none 0 0, .slice none 0 0], .int .i64 x]) (by simp [results, Tryz.results26, go_sem, q0, q1]) rfl ?_
    rw [HX.out, HC.out.1, HC.out.2]
    exact retTab_none hx4
end Go.Proofs.YtmdmbdbbpdojnaaGreatDoor
namespace Go.Proofs.YtmdmbdbbpdojnaaGreatDoor
open Go.RowKit Nam Pol
attribute [local go_sem] Oper.semAt_some wide_fn wide_depth wide_some

def intC (t : TypeId) : Prop := t = 3
theorem goT_drop {ns : List Nod} {L : List ByteArray} {k : Nat} {X : ByteArray} {n : Nat} {x : Nod} {last : Int} (hx : L[k]? = some X) (hn : ns[n]? = some x) :
    goT ns (L.drop k) n last = match kidIn ns X x.kids with
      | some q => goT ns (L.drop (k + 1)) q.toNat (if x.below = -1 then last else x.below)
      | none => if x.below = -1 then last else x.below := by
  rw [List.drop_eq_getElem?_toList_append, hx]
  show goT ns (X :: L.drop (k + 1)) n last = _
  rw [goT, hn]; rfl
theorem goT_end {ns : List Nod} {n : Nat} {x : Nod} {last : Int} (hn : ns[n]? = some x) : goT ns [] n last = if x.here' = -1 then last else x.here' := by
  rw [goT, hn]
theorem cc_boxed {C : TypeId → Prop} {W : World} {b : Nat} {t : TypeId} {v : Value} (h : Boxed W b t v) (ht : C t) : CC C W b := ⟨_, _, _, h, ht⟩
set_option maxRecDepth 100000 in
set_option maxHeartbeats 4000000 in
theorem walker1_any (ns : List Nod) (s : ByteArray) (a : Option Addr) (cap n b : Nat) (rv : Value) (w : World) (hn : ns.length = n) (hnc : n ≤ cap) (hcm : cap ≤ maxLen) (hl : Nods w a ns) (hk : ∀ (j : Nat) (x : Nod), ns[j]? = some x → kidsIn ns x.kids) (h0 : 0 < n)
    (hs : s.size ≤ 9223372036854775807) (ht : TabB w b rv (.slice a n cap)) (hw : Env w) :
    Calls Tryz.prog 94 #[.string s, .pointer (some ⟨b, 0, none⟩)] w (Ret (.int .i64 (goT ns (labsB s) 0 (-1))) w) := by
  refine (callsIn_wide (n := 0)).1 ?_
  refine callsIn_of_wp_marks Tryz.func94 rfl trivial ?_ rfl
  simp only [Tryz.ntmps94, List.size_toArray, List.length_cons, List.length_nil, Nat.reduceAdd, Nat.reduceSub, Array.replicate_succ, Array.replicate_zero, List.push_toArray, List.append_toArray, List.nil_append, List.cons_append]
  obtain ⟨y0, hy0⟩ := get_some (l := ns) (k := 0) hn h0
  obtain ⟨g, off, rfl, -⟩ := hl 0 y0 hy0
  have HW := Lib.hid hw; have HL := Lib.hid hl; have HN := Lib.hid hn; have HT := Lib.hid ht; have HK := Lib.hid hk; have HNC := Lib.hid hnc; have HCM := Lib.hid hcm
  have hcm' := hcm
  unfold maxLen at hcm'
  clear hw hl hn ht hk hy0
  gi_wp2_with (gi_at_call 56; refine (callsIn_wide.2 (back_any _ _)).mono ?_; rintro e w' ⟨rfl, rfl⟩)
  obtain ⟨W0, hW0⟩ : ∃ W0, ((((w.alloc (Obj.cells #[Value.int .i64 0] 3)).alloc (Obj.cells #[Value.int .i64 0] 3)).alloc (Obj.cells #[Value.int .i64 (-1)] 3)).alloc (Obj.cells #[Value.string s] 9)) = W0 := ⟨_, rfl⟩
  have hB : Ext w W0 := by rw [← hW0]; exact ext_alloc (ext_alloc (ext_alloc (ext_alloc (Below.refl _ _) _) _) _) _
  have b0 : Boxed W0 w.heap.size 3 (.int .i64 0) := by rw [← hW0]; exact (((Boxed.new _ _ _).alloc _).alloc _).alloc _
  have b1 : Boxed W0 (w.heap.size + 1) 3 (.int .i64 (0 : Nat)) := by rw [← hW0]; have := ((Boxed.new (w.alloc (Obj.cells #[Value.int .i64 0] 3)) 3 (.int .i64 0)).alloc (Obj.cells #[Value.int .i64 (-1)] 3)).alloc (Obj.cells #[Value.string s] 9); rwa [World.size_alloc] at this
  have b2 : Boxed W0 (w.heap.size + 1 + 1) 3 (.int .i64 (-1)) := by rw [← hW0]; have := (Boxed.new ((w.alloc (Obj.cells #[Value.int .i64 0] 3)).alloc (Obj.cells #[Value.int .i64 0] 3)) 3 (.int .i64 (-1))).alloc (Obj.cells #[Value.string s] 9); rwa [World.size_alloc, World.size_alloc] at this
  have b3 : Boxed W0 (w.heap.size + 1 + 1 + 1) 9 (.string s) := by rw [← hW0]; have := Boxed.new (((w.alloc (Obj.cells #[Value.int .i64 0] 3)).alloc (Obj.cells #[Value.int .i64 0] 3)).alloc (Obj.cells #[Value.int .i64 (-1)] 3)) 9 (.string s); rwa [World.size_alloc, World.size_alloc, World.size_alloc] at this
  have hz : W0.heap.size = w.heap.size + 4 := by rw [← hW0]; simp
  rw [hW0]
  clear hW0
  have Hz := Lib.hid hz; clear hz
  have hz := Hz.out
  have nC1 : ¬ intC 23 := by unfold intC; decide
  have nC2 : ¬ intC 9 := by unfold intC; decide
  have nC3 : ¬ intC 80 := by unfold intC; decide
  have yC : intC 3 := rfl
  obtain ⟨res, hres⟩ : ∃ res, goT ns (labsB s) 0 (-1) = res := ⟨_, rfl⟩
  rw [hres]
  refine range_law2 (C := intC) rfl (enters_of Tryz.func86 (by kernel_rfl) rfl) (back1_iter s (w.heap.size + 1 + 1 + 1) hs intC nC1 nC2 nC3)
    (fun o1 o2 => ⟨(b3.alloc _).alloc _, HW.out.ext (ext_alloc (ext_alloc hB _) _)⟩) (fun x => rfl)
    (fun _ => False) (fun b hb => hb.elim)
    (fun k V => ∃ (m : Nat) (last : Int), goT ns ((labsB s).drop k) m last = res ∧ m < n ∧ Boxed V w.heap.size 3 (.int .i64 0) ∧ Boxed V (w.heap.size + 1) 3 (.int .i64 m) ∧ Boxed V (w.heap.size + 1 + 1) 3 (.int .i64 last) ∧ Ext w V)
    (fun c k V => c = .ret ∧ Boxed V w.heap.size 3 (.int .i64 res) ∧ Ext w V)
    ?stI ?stX ⟨0, -1, hres, h0, b0, b1, b2, hB⟩ ?round ?done ?stop
  case stI =>
    intro k A B ⟨m, last, h1, h2, h3, h4, h5, h6⟩ hf
    exact ⟨m, last, h1, h2, hf.boxed h3 (.inl yC), hf.boxed h4 (.inl yC), hf.boxed h5 (.inl yC), h6.trans ((hf.mono (by omega)).below h6.size)⟩
  case stX =>
    intro c k A B ⟨h0, h3, h6⟩ hf
    exact ⟨h0, hf.boxed h3 (.inl yC), h6.trans ((hf.mono (by omega)).below h6.size)⟩
  case round =>
    rintro lo k X V hx rfl hV hi
    have HX := Lib.hid hx; have HI := Lib.hid hi
    clear hx hi
    unfold encB
    gi_wp2
    refine ⟨KpS.refl _, HI.out, ?_⟩
    clear HI
    rintro Vb ⟨m, last, i1, i2, i3, i4, i5, i6⟩ - -
    obtain ⟨x, hx1⟩ := get_some HN.out i2
    have hstep := goT_drop (last := last) HX.out hx1
    rw [i1] at hstep
    have hkx := HK.out m x hx1
    have hnods := HL.out.ext i6
    obtain ⟨t0, t1⟩ := (HT.out.ext i6).cells
    obtain ⟨g', off', hgg, -, d1, d2, -, -⟩ := hnods m x hx1
    cases hgg
    have hmc : m ≤ cap := by omega
    have c4 := i4.cell; have c5 := i5.cell; have f4 := i4.frozen; have f5 := i5.frozen; have c3 := i3.cell; have f3 := i3.frozen
    have HST := Lib.hid hstep; have HX1 := Lib.hid hx1; have HKX := Lib.hid hkx; have HNO := Lib.hid hnods
    have I3 := Lib.hid i3; have I4 := Lib.hid i4; have I5 := Lib.hid i5; have I6 := Lib.hid i6
    clear i1 i3 i4 i5 i6 hstep hx1 hkx hnods hV t0
    cases hbl : (x.below == -1)
    all_goals
      first
      | (have hl2 : (if x.below = -1 then last else x.below) = last := if_pos (by simpa using hbl)
         have hzs : Hid (Boxed Vb w.heap.size 3 (.int .i64 0) ∧ Boxed Vb (w.heap.size + 1) 3 (.int .i64 m) ∧ Boxed Vb (w.heap.size + 1 + 1) 3 (.int .i64 last) ∧ Ext w Vb ∧ Kp intC Vb Vb ∧ Nods Vb (some ⟨g, off, none⟩) ns) :=
           Lib.hid ⟨I3.out, I4.out, I5.out, I6.out, KpS.refl _, HNO.out⟩)
      | (have hl2 : (if x.below = -1 then last else x.below) = x.below := if_neg (by simpa using hbl)
         have hF : Fr (fun b => b = w.heap.size + 1 + 1) Vb (Vb.setCell ⟨w.heap.size + 1 + 1, 0, none⟩ (.int .i64 x.below)) := Fr.setCell _ _ _ rfl
         have hE6 : Ext w (Vb.setCell ⟨w.heap.size + 1 + 1, 0, none⟩ (.int .i64 x.below)) := I6.out.trans (hF.below I6.out.size (fun k hk => by omega))
         have hzs : Hid (Boxed (Vb.setCell ⟨w.heap.size + 1 + 1, 0, none⟩ (.int .i64 x.below)) w.heap.size 3 (.int .i64 0) ∧ Boxed (Vb.setCell ⟨w.heap.size + 1 + 1, 0, none⟩ (.int .i64 x.below)) (w.heap.size + 1) 3 (.int .i64 m) ∧ Boxed (Vb.setCell ⟨w.heap.size + 1 + 1, 0, none⟩ (.int .i64 x.below)) (w.heap.size + 1 + 1) 3 (.int .i64 x.below) ∧ Ext w (Vb.setCell ⟨w.heap.size + 1 + 1, 0, none⟩ (.int .i64 x.below)) ∧ Kp intC Vb (Vb.setCell ⟨w.heap.size + 1 + 1, 0, none⟩ (.int .i64 x.below)) ∧ Nods (Vb.setCell ⟨w.heap.size + 1 + 1, 0, none⟩ (.int .i64 x.below)) (some ⟨g, off, none⟩) ns) :=
           Lib.hid ⟨hF.boxed I3.out (by omega), hF.boxed I4.out (by omega), I5.out.set _, hE6, KpS.setCell _ _ _ (cc_boxed I5.out yC), HL.out.ext hE6⟩
         clear hF hE6)
      have HL2 := Lib.hid hl2
      clear hl2
      cases hkd : kidIn ns X x.kids with
      | none =>
        have HKD := Lib.hid hkd
        have HR := Lib.hid ((show res = (if x.below = -1 then last else x.below) from by have := HST.out; rw [hkd] at this; exact this).trans HL2.out)
        clear hkd HST
        gi_wp2_with (gi_at_call 57; refine (callsIn_wide.2 (kid_any ns X _ cap n m x _ HN.out HNC.out HCM.out hzs.out.2.2.2.2.2 HX1.out HKX.out)).mono ?_; rintro e w1 ⟨rfl, hE1⟩; rw [HKD.out]; obtain ⟨z1, z2, z3, z4, z5, z6⟩ := hzs.out; have k1 := (ext_boxed hE1 z1); have k3 := (ext_boxed hE1 z3); have e1 := k1.cell; have e3 := k3.cell; have f1 := k1.frozen; have K1 := Lib.hid k1; have KE := Lib.hid (ext_trans z4 hE1); have KK := Lib.hid (z5.trans (KpS.of_ext hE1)); clear z1 z2 z3 z4 z5 z6 hE1 k1 k3)
        exact ⟨KK.out.trans (KpS.setCell _ _ _ (cc_boxed K1.out yC)), rfl, by rw [HR.out]; exact K1.out.set _, KE.out.setCell (Nat.le_refl _) _⟩
      | some q =>
        obtain ⟨hq, y, hy, -⟩ := kidIn_some hkd
        obtain ⟨hq0, hq1⟩ := HKX.out q hq
        obtain ⟨m2, rfl⟩ : ∃ m2 : Nat, q = m2 := ⟨q.toNat, by omega⟩
        have hm2 : m2 < n := by rw [Int.toNat_natCast, HN.out] at hq1; exact hq1
        have HKD := Lib.hid hkd
        have HR := Lib.hid ((show res = goT ns ((labsB s).drop (k + 1)) m2 (if x.below = -1 then last else x.below) from by have := HST.out; rw [hkd] at this; exact this).trans (by rw [HL2.out]))
        clear hkd HST hq hy hq0 hq1
        gi_wp2_with (gi_at_call 57; refine (callsIn_wide.2 (kid_any ns X _ cap n m x _ HN.out HNC.out HCM.out hzs.out.2.2.2.2.2 HX1.out HKX.out)).mono ?_; rintro e w1 ⟨rfl, hE1⟩; rw [HKD.out]; obtain ⟨z1, z2, z3, z4, z5, z6⟩ := hzs.out; have k1 := (ext_boxed hE1 z2); have f1 := k1.frozen; have e1 := k1.cell; have K0 := Lib.hid (ext_boxed hE1 z1); have K1 := Lib.hid k1; have K3 := Lib.hid (ext_boxed hE1 z3); have KE := Lib.hid (ext_trans z4 hE1); have KK := Lib.hid (z5.trans (KpS.of_ext hE1)); clear z1 z2 z3 z4 z5 z6 hE1 k1)
        have hF : Fr (fun b => b = w.heap.size + 1) w1 (w1.setCell ⟨w.heap.size + 1, 0, none⟩ (.int .i64 (m2 : Int))) := Fr.setCell _ _ _ rfl
        exact ⟨KK.out.trans (KpS.setCell _ _ _ (cc_boxed K1.out yC)), m2, _, HR.out.symm, hm2, hF.boxed K0.out (by omega), K1.out.set _, hF.boxed K3.out (by omega), KE.out.setCell (Nat.le_succ _) _⟩
  case done =>
    intro V ⟨m, last, i1, i2, i3, i4, i5, i6⟩ hK
    obtain ⟨x, hx1⟩ := get_some HN.out i2
    rw [List.drop_length, goT_end hx1] at i1
    have hnods := HL.out.ext i6
    obtain ⟨t0, t1⟩ := (HT.out.ext i6).cells
    obtain ⟨g', off', hgg, -, d1, d2, -, -⟩ := hnods m x hx1
    cases hgg
    have hmc : m ≤ cap := by omega
    have c4 := i4.cell; have c5 := i5.cell; have c3 := i3.cell; have f3 := i3.frozen
    have HR := Lib.hid i1
    have I3 := Lib.hid i3; have I6 := Lib.hid i6; have HKK := Lib.hid hK; have HXX := Lib.hid hx1
    clear i1 i3 i4 i5 i6 hnods t0 hK hx1
    cases hbl : (x.here' == -1)
    all_goals
      first
      | (have hl2 : (if x.here' = -1 then last else x.here') = last := if_pos (by simpa using hbl))
      | (have hl2 : (if x.here' = -1 then last else x.here') = x.here' := if_neg (by simpa using hbl))
      have HRR := Lib.hid (HR.out.symm.trans hl2)
      clear hl2
      gi_wp2
      have hq := boxed_putObj (I3.out.set (.int .i64 res)) (D := W0.heap.size) (by omega) (.deferred none)
      have hqc := hq.cell
      rw [← HRR.out]
      refine leave_mark ((Below.heap_setCell _ _ _ _ (by simp; omega)).trans HKK.out) (v := .int .i64 res) (by simp [results, Tryz.results94, go_sem, hqc]) ⟨by first | rfl | rw [hres], ?_⟩
      exact below_putObj (I6.out.setCell (Nat.le_refl _) _) (by omega) (by have := I6.out.size; simp [World.setCell]; omega) _
  case stop =>
    rintro c k V hk ⟨rfl, i3, i6⟩ hK
    have hq := boxed_putObj i3 (D := W0.heap.size) (by omega) (.deferred none)
    have hqc := hq.cell
    have HKK := Lib.hid hK; have I6 := Lib.hid i6; have HQ := Lib.hid hqc
    clear i3 i6 hK hq hqc
    gi_wp2
    have hqc := HQ.out
    refine leave_mark HKK.out (v := .int .i64 res) (by simp [results, Tryz.results94, go_sem, hqc]) ⟨rfl, ?_⟩
    exact below_putObj I6.out (by omega) (by have := I6.out.size; omega) _
end Go.Proofs.YtmdmbdbbpdojnaaGreatDoor
namespace Go.Proofs.YtmdmbdbbpdojnaaGreatDoor
open Go.RowKit

/-- The wide fence, in a round or in none. -/
def Wd (r : Option Nat) : Fence := { Fence.wide with round := r }
section
variable {P : Program} {ops : Array Oper} {Q : Exit → Act → World → Prop} {S : (Nat → Prop) → World → Prop} {r : Option Nat}
theorem wpIn_of_gives {o : Oper} {a : Act} {w : World} {G : Value → World → Prop} (hd : ∀ c, o.op ≠ .defer c) (h : Gives P o a w G) {K : Act → World → Prop} (hK : ∀ v w', G v w' → K (a.put o.dst v) w') : o.wpIn (Wd r) 0 P a w K Q := by
  refine ⟨fun _ _ => trivial, ?_⟩
  show o.uponIn (Wd r) 0 P a K Q ((o.semAt r a.eval).run P w)
  rw [Oper.semAt_eq _ _ _ hd]
  unfold Gives at h
  split at h
  · rename_i e; rw [e]; exact hK _ _ h
  · rename_i e; rw [e]; exact hK _ _ h
  · rename_i f args w' e
    rw [e]
    refine ⟨fun h => by simp [Wd, Fence.wide] at h, ?_⟩
    refine CallsIn.mono (F := Wd r) (callsIn_wide.2 h) ?_
    rintro e w'' ⟨v, rfl, hg⟩
    exact hK _ _ hg
  · exact h.elim
/-- Operation i of the walk, L having run: its value is v. -/
def StepL (P : Program) (ops : Array Oper) (S : (Nat → Prop) → World → Prop) (i : Nat) (o : Oper) (a : Act) (v : Value) : Prop :=
  Region.wanted o (yielded ops a.tmps) = true ∧ ∀ L w, S L w → ¬ L i → (∀ j, waits ops i j = true → L j) → (∀ j k, L j → waits ops j k = true → L k) → Gives P o a w (Is v (S (fun k => L k ∨ k = i)))
def StepsL (P : Program) (ops : Array Oper) (S : (Nat → Prop) → World → Prop) : Nat → List Oper → Act → (Act → Prop) → Prop
  | _, [], a, F => F a
  | i, o :: os, a, F => ∃ v, StepL P ops S i o a v ∧ StepsL P ops S (i + 1) os (a.put o.dst v) F
theorem stepsL_run {i : Nat} {o : Oper} {os : List Oper} {a : Act} {v : Value} {F : Act → Prop} (hg : o.guard = none) (h : ∀ L w, S L w → ¬ L i → (∀ j, waits ops i j = true → L j) → (∀ j k, L j → waits ops j k = true → L k) → Gives P o a w (Is v (S (fun k => L k ∨ k = i))))
    (hs : StepsL P ops S (i + 1) os (a.put o.dst v) F) : StepsL P ops S i (o :: os) a F := ⟨v, ⟨by unfold Region.wanted; rw [hg], h⟩, hs⟩
theorem stepsL_end {i : Nat} {a : Act} {F : Act → Prop} (h : F a) : StepsL P ops S i [] a F := h
inductive ValsL (P : Program) (ops : Array Oper) (S : (Nat → Prop) → World → Prop) (a0 : Act) : Nat → List Value → Act → Prop
  | nil : ValsL P ops S a0 0 [] a0
  | snoc {i : Nat} {vs : List Value} {a : Act} {o : Oper} {v : Value} : ValsL P ops S a0 i vs a → ops[i]? = some o → StepL P ops S i o a v → ValsL P ops S a0 (i + 1) (vs ++ [v]) (a.put o.dst v)
theorem valsL_of_steps {a0 : Act} {F : Act → Prop} : ∀ (os : List Oper) (i : Nat) (vs : List Value) (a : Act), ValsL P ops S a0 i vs a → ops.toList.drop i = os → StepsL P ops S i os a F → ∃ vs' a', ValsL P ops S a0 ops.size vs' a' ∧ F a'
  | [], i, vs, a, hv, hd, hs => by
    have hle : ops.size ≤ i := by have := congrArg List.length hd; simp at this; omega
    have hi : i ≤ ops.size := by
      clear hs hd
      induction hv with
      | nil => omega
      | snoc _ ho _ _ => have := (Array.getElem?_eq_some_iff.1 ho).1; omega
    obtain rfl : i = ops.size := by omega
    exact ⟨vs, a, hv, hs⟩
  | o :: os, i, vs, a, hv, hd, hs => by
    obtain ⟨v, h1, h2⟩ := hs
    have ho : ops[i]? = some o := by
      have := congrArg (fun l => l[0]?) hd
      simpa using this
    refine valsL_of_steps os (i + 1) (vs ++ [v]) _ (hv.snoc ho h1) ?_ h2
    rw [← List.drop_drop, hd]; rfl
theorem valsL_length {a0 : Act} {n : Nat} {vs : List Value} {a : Act} (h : ValsL P ops S a0 n vs a) : vs.length = n := by
  induction h with
  | nil => rfl
  | snoc _ _ _ ih => simp [ih]
theorem valsL_at {a0 : Act} (hord : orderly ops = true) : ∀ {n : Nat} {vs : List Value} {a : Act}, ValsL P ops S a0 n vs a →
    Agree ops a0 vs (fun k => k < n) a ∧ ∀ i o, i < n → ops[i]? = some o → ∃ ai v, vs[i]? = some v ∧ StepL P ops S i o ai v ∧ Agree ops a0 vs (fun k => k < i) ai := by
  intro n vs a h
  induction h with
  | nil => exact ⟨⟨rfl, rfl, fun _ _ => rfl, fun i _ _ _ hi => by omega⟩, fun i _ hi => by omega⟩
  | @snoc i vs a o v hv ho hs ih =>
    obtain ⟨ih1, ih2⟩ := ih
    have hl := valsL_length hv
    have more : ∀ {L : Nat → Prop} {b : Act}, (∀ k, L k → k < i) → Agree ops a0 vs L b → Agree ops a0 (vs ++ [v]) L b := fun hL hb =>
      ⟨hb.defers, hb.size, hb.old, fun k ok u t hk hok hdk hu ht => hb.new k ok u t hk hok hdk (by rw [List.getElem?_append_left (by rw [hl]; exact hL k hk)] at hu; exact hu) ht⟩
    have hvi : (vs ++ [v])[i]? = some v := by rw [List.getElem?_append_right (by omega), hl]; simp
    refine ⟨?_, fun k ok hk hok => ?_⟩
    · have := (more (fun k hk => hk) ih1).put hord ho hvi
      exact ⟨this.defers, this.size, fun t ht => this.old t (fun k ok hk => ht k ok (by have hk' : k < i ∨ k = i := hk; omega)), fun k ok u t hk => this.new k ok u t (by have hk' : k < i + 1 := hk; show k < i ∨ k = i; omega)⟩
    · by_cases hki : k = i
      · subst hki
        rw [ho] at hok; cases hok
        exact ⟨a, v, hvi, hs, more (fun k hk => hk) ih1⟩
      · obtain ⟨ai, u, h1, h2, h3⟩ := ih2 k ok (by omega) hok
        exact ⟨ai, u, by rw [List.getElem?_append_left (by omega)]; exact h1, h2, more (fun j hj => by omega) h3⟩
/-- Where the drawn order stands. -/
structure InvL (ops : Array Oper) (S : (Nat → Prop) → World → Prop) (a0 : Act) (vs : List Value) (listed : Array Bool) (a : Act) (w : World) : Prop where
  world : S (fun k => listed[k]? = some true) w
  size : listed.size = ops.size
  agree : Agree ops a0 vs (fun k => listed[k]? = some true) a
  closed : ∀ i j, listed[i]? = some true → waits ops i j = true → listed[j]? = some true
theorem wpAny_of_valsL {a0 a' : Act} {vs : List Value} (hord : orderly ops = true) (hf : forwards ops = true) (hedge : ∀ i j, waits ops i j = true → j < ops.size) (hsel : Region.noSelect ops = true) (hdef : ∀ (i : Nat) (o : Oper) c, ops[i]? = some o → o.op ≠ .defer c)
    (hv : ValsL P ops S a0 ops.size vs a') (hfin : ∀ L w, (∀ i, i < ops.size → L i) → S L w → Q .normal a' w) :
    ∀ (fuel : Nat) (listed : Array Bool) (a : Act) (w : World), (listed.toList.count false) ≤ fuel → InvL ops S a0 vs listed a w → wpAnyIn (Wd r) 0 P .any ops Q fuel listed a w := by
  obtain ⟨hA', hsteps⟩ := valsL_at hord hv
  have hlen := valsL_length hv
  have done : ∀ (listed : Array Bool) (a : Act) (w : World), InvL ops S a0 vs listed a w → (∀ i, i < ops.size → listed[i]? = some true) → Q .normal a w := fun listed a w hI hall => by
    have : a = a' := by
      obtain ⟨t1, d1⟩ := a; obtain ⟨t2, d2⟩ := a'
      have hs : t1.size = t2.size := hI.agree.size.trans hA'.size.symm
      have hd : d1 = d2 := hI.agree.defers.trans hA'.defers.symm
      have ht : t1 = t2 := by
        apply Array.ext_getElem?
        intro t
        by_cases hw : ∃ (j : Nat) (oj : Oper), ops[j]? = some oj ∧ oj.dst = some t
        · obtain ⟨j, oj, hj, hdj⟩ := hw
          have hjl := (Array.getElem?_eq_some_iff.1 hj).1
          have hvj : vs[j]? = some (vs[j]'(by omega)) := List.getElem?_eq_getElem (by omega)
          by_cases hts : t < a0.tmps.size
          · exact (hI.agree.new j oj _ t (hall j hjl) hj hdj hvj hts).trans (hA'.new j oj _ t hjl hj hdj hvj hts).symm
          · rw [Array.getElem?_eq_none (by have := hI.agree.size; simp only at this; omega), Array.getElem?_eq_none (by have := hA'.size; simp only at this; omega)]
        · exact (hI.agree.old t (fun k ok _ hok hdk => hw ⟨k, ok, hok, hdk⟩)).trans (hA'.old t (fun k ok _ hok hdk => hw ⟨k, ok, hok, hdk⟩)).symm
      rw [ht, hd]
    rw [this]; exact hfin _ w hall hI.world
  intro fuel
  induction fuel with
  | zero =>
    intro listed a w hc hI
    have hall : ∀ i, i < ops.size → listed[i]? = some true := fun i hi => by
      have hil : i < listed.size := by rw [hI.size]; exact hi
      cases hl : listed[i]'hil with
      | true => rw [Array.getElem?_eq_getElem hil, hl]
      | false =>
        have h1 : List.count false listed.toList = 0 := by omega
        have := List.count_eq_zero.1 h1
        exact absurd (by rw [← hl]; simp : false ∈ listed.toList) this
    refine ⟨?_, done listed a w hI hall⟩
    unfold Region.ready
    rw [List.filter_eq_nil_iff]
    intro i hi
    have := hall i (by simpa using hi)
    simp [Array.getD_eq_getD_getElem?, this]
  | succ fuel ih =>
    intro listed a w hc hI
    refine ⟨fun hr => done listed a w hI (ready_of_unlisted hf hI.size hedge hr), fun i hi => ?_⟩
    obtain ⟨⟨o, ho⟩, hl, hr⟩ := ready_spec hi
    have hil := (Array.getElem?_eq_some_iff.1 ho).1
    have hils : i < listed.size := by rw [hI.size]; exact hil
    have hlf : listed[i]'hils = false := by simpa [Array.getD, hils] using hl
    have hLi : ¬ listed[i]? = some true := by rw [Array.getElem?_eq_getElem hils, hlf]; simp
    have hready : ∀ j, waits ops i j = true → listed[j]? = some true := fun j hj => by
      have := hr j hj
      rw [Array.getD_eq_getD_getElem?] at this
      cases h : listed[j]? with
      | none => rw [h] at this; cases this
      | some b => rw [h] at this; simp at this; rw [this]
    obtain ⟨ai, v, hvi, ⟨hwt, hst⟩, hag⟩ := hsteps i o hil ho
    have hslots := same_slots hord ho hlen hI.agree hag hLi hready (fun j hj hw => hI.closed j i hj hw)
    have hset : ∀ k, (listed.setIfInBounds i true)[k]? = some true ↔ (listed[k]? = some true ∨ k = i) := fun k => by
      by_cases hki : k = i
      · subst hki; rw [Array.getElem?_setIfInBounds_self, if_pos hils]; simp
      · rw [Array.getElem?_setIfInBounds_ne (fun e => hki e.symm)]; simp [hki]
    have hnext : ∀ w', S (fun k => listed[k]? = some true ∨ k = i) w' → wpAnyIn (Wd r) 0 P .any ops Q fuel (listed.setIfInBounds i true) (a.put o.dst v) w' := fun w' hw' => by
      refine ih _ _ _ ?_ ⟨by rw [show (fun k => (listed.setIfInBounds i true)[k]? = some true) = fun k => (listed[k]? = some true ∨ k = i) from funext fun k => propext (hset k)]; exact hw', by simp [hI.size], ?_, fun k j hk hw => ?_⟩
      · have hcnt : List.count false (listed.setIfInBounds i true).toList + 1 = List.count false listed.toList := by
          rw [Array.toList_setIfInBounds]
          exact count_set_true _ i (by simpa using hils) (by simpa using hlf)
        omega
      · have := hI.agree.put hord ho hvi
        exact ⟨this.defers, this.size, fun t ht => this.old t (fun k ok hk => ht k ok ((hset k).2 hk)), fun k ok u t hk => this.new k ok u t ((hset k).1 hk)⟩
      · rcases (hset k).1 hk with hk | rfl
        · exact (hset j).2 (.inl (hI.closed k j hk hw))
        · exact (hset j).2 (.inl (hready j hw))
    refine wpOpIn_step ho (fun K' hK' => ?_)
    rw [wanted_same hslots, hwt, if_pos rfl]
    refine wpIn_of_gives (fun c => hdef i o c ho) (gives_same (exec_same (fun cs b => Region.noSelect_spec hsel i o cs b ho) hslots) (hst _ w hI.world hLi hready hI.closed)) ?_
    rintro u w' ⟨rfl, hw'⟩
    exact hK' _ _ (hnext w' hw')
def noDefer (ops : Array Oper) : Bool := ops.all fun o => match o.op with | .defer _ => false | _ => true
/-- THE LAW: a region that draws its order, walked once. -/
theorem wpIn_region_L {id : Nat} {a : Act} {w : World} (hm : P.follows .mixedOrders = true) (hord : orderly ops = true) (hf : forwards ops = true) (hedge : ((List.range ops.size).all fun i => ((ops[i]?).map fun o => o.after.all fun e => decide (e.on < ops.size)).getD true) = true)
    (hsel : Region.noSelect ops = true) (hdef : noDefer ops = true) (S : (Nat → Prop) → World → Prop) (h0 : S (fun _ => False) w.drew) (hs : StepsL P ops S 0 ops.toList a fun a' => ∀ L w', (∀ i, i < ops.size → L i) → S L w' → Q .normal a' w') : (Code.region id ops true).wpIn (Wd r) 0 P Q a w := by
  refine wpIn_region_any hm ?_
  obtain ⟨vs, a', hv, hfin⟩ := valsL_of_steps ops.toList 0 [] a .nil rfl hs
  have hedge' : ∀ i j, waits ops i j = true → j < ops.size := fun i j hw => by
    unfold waits at hw
    cases ho : ops[i]? with
    | none => rw [ho] at hw; cases hw
    | some o =>
      rw [ho] at hw
      simp only [Option.map_some, Option.getD_some, Array.any_eq_true] at hw
      obtain ⟨x, hx, h2⟩ := hw
      rw [Bool.and_eq_true, beq_iff_eq] at h2
      have h1 := List.all_eq_true.1 hedge i (by simpa using (Array.getElem?_eq_some_iff.1 ho).1)
      rw [ho] at h1
      simp only [Option.map_some, Option.getD_some, Array.all_eq_true] at h1
      have := h1 x hx
      rw [← h2.2]; simpa using this
  have hdef' : ∀ (i : Nat) (o : Oper) c, ops[i]? = some o → o.op ≠ .defer c := fun i o c ho e => by
    obtain ⟨hi, rfl⟩ := Array.getElem?_eq_some_iff.1 ho
    have := Array.all_eq_true.1 hdef i hi
    rw [e] at this
    cases this
  have hemp : (fun k => (Array.replicate ops.size false)[k]? = some true) = fun _ => False := funext fun k => propext (Iff.intro (fun h => by
    rw [Array.getElem?_replicate] at h
    split at h <;> cases h) (fun h => h.elim))
  refine wpAny_of_valsL hord hf hedge' hsel hdef' hv hfin ops.size _ a _ (by simp) ⟨by rw [hemp]; exact h0, by simp, ⟨rfl, rfl, fun _ _ => rfl, fun i _ _ _ hi => ?_⟩, fun i j hi => ?_⟩
  · rw [Array.getElem?_replicate] at hi; split at hi <;> cases hi
  · rw [Array.getElem?_replicate] at hi; split at hi <;> cases hi
end
end Go.Proofs.YtmdmbdbbpdojnaaGreatDoor
namespace Go.Proofs.YtmdmbdbbpdojnaaGreatDoor
open Go.RowKit Nam Pol Go.Maps

/-- What Compile's rounds write. -/
def CpC (t : TypeId) : Prop := t = 62 ∨ t = 43 ∨ t = 3
theorem cpNode : CpC 62 := .inl rfl
theorem cpNodes : CpC 43 := .inr (.inl rfl)
theorem cpInt : CpC 3 := .inr (.inr rfl)
theorem KpS.grown {S : Nat → Prop} {C : TypeId → Prop} {w w' : World} {base : Nat} {e : TypeId} {m n : Nat} {v : Value} {xs : List Value} (h : w.ownsRow base e m v n xs) (he : C e) (hg : w.grownBy w' v.ownBlock) : KpS S C w w' := by
  refine ⟨hg.os, hg.tape, hg.output, hg.size, fun k hk hc _ => hg.block k hk fun e' => ?_⟩
  rcases h.2 with ⟨rfl, _⟩ | ⟨g, cap, cur, rfl, _, hh, _⟩
  · simp [Value.ownBlock] at e'
  · simp only [Value.ownBlock, Option.some.injEq] at e'
    subst e'
    exact hc ⟨_, _, _, hh, he⟩
theorem own_cc {C : TypeId → Prop} {w : World} {base : Nat} {e : TypeId} {m n : Nat} {v : Value} {xs : List Value} (h : w.ownsRow base e m v n xs) (he : C e) {g : Nat} (hg : v.ownBlock = some g) : CC C w g := by
  rcases h.2 with ⟨rfl, _⟩ | ⟨g', cap, cur, rfl, _, hh, _⟩
  · simp [Value.ownBlock] at hg
  · simp only [Value.ownBlock, Option.some.injEq] at hg
    subst hg
    exact ⟨_, _, _, hh, he⟩
theorem NodesOwn.st {n0 : Nat} {w w' : World} {base : Nat} {v : Value} {ns : List Nod} {kvs : List Value} (h : NodesOwn w base v ns kvs) (hs : St n0 CpC w w') : NodesOwn w' base v ns kvs :=
  h.keep (fun g hg => hs.block g (h.row.lt g hg).2 (.inr (own_cc h.row cpNode hg))) fun j kv g hk hg => by
    obtain ⟨x, hx⟩ := h.get hk
    exact hs.block g ((h.kids j x kv hx hk).lt g hg).2 (.inr (own_cc (h.kids j x kv hx hk) cpInt hg))
theorem prefix_star {p : Str} (h : rpatB p = true) : Lib.hasPrefix p [42, 46] = starB p := by
  cases hs : starB p
  · have hb : isB p = true := by unfold rpatB at h; rw [hs] at h; exact h
    rw [Bool.eq_false_iff]
    intro hp
    unfold Lib.hasPrefix at hp
    obtain ⟨t, rfl⟩ := List.isPrefixOf_iff_prefix.1 hp
    rw [show ([42, 46] : Str) ++ t = 42 :: 46 :: t from rfl, isB_star] at hb
    cases hb
  · obtain ⟨t, rfl, _⟩ := (starB_iff p).1 hs
    unfold Lib.hasPrefix
    rfl
theorem labs_path {p : ByteArray} (h : rpatB p.data.toList = true) {O : ByteArray} (hO : O.data.toList = ofP p) : labsB O = pathP p := by
  unfold labsB pathP revL
  rw [hO, if_pos (name_of h)]
/-- Does k wait for m, at last? -/
def reach (ops : Array Oper) : Nat → Nat → Nat → Bool
  | 0, k, m => waits ops k m
  | f + 1, k, m => waits ops k m || (List.range ops.size).any fun x => waits ops k x && reach ops f x m
theorem reach_L {ops : Array Oper} {L : Nat → Prop} (hc : ∀ j k, L j → waits ops j k = true → L k) {m : Nat} : ∀ (f k : Nat), reach ops f k m = true → L k → L m
  | 0, k, h, hk => hc k m hk h
  | f + 1, k, h, hk => by
    unfold reach at h
    rcases Bool.or_eq_true _ _ ▸ h with h | h
    · exact hc k m hk h
    · obtain ⟨x, -, hx⟩ := List.any_eq_true.1 h
      rw [Bool.and_eq_true] at hx
      exact reach_L hc f x hx.2 (hc k x hk hx.1)
/-- The four worlds of a region of which operations i, j and k turn the world. -/
def At4 (i j k : Nat) (W0 W1 W2 W3 : World) (L : Nat → Prop) (w : World) : Prop := (¬ L i ∧ ¬ L j ∧ ¬ L k ∧ w = W0) ∨ (L i ∧ ¬ L j ∧ ¬ L k ∧ w = W1) ∨ (L i ∧ L j ∧ ¬ L k ∧ w = W2) ∨ (L i ∧ L j ∧ L k ∧ w = W3)
section
variable {ops : Array Oper} {i j k : Nat} {W0 W1 W2 W3 : World} {L : Nat → Prop} {w : World}
theorem at4_quiet (h : At4 i j k W0 W1 W2 W3 L w) (m : Nat) (hL : ¬ L m) (hc : ∀ j k, L j → waits ops j k = true → L k) (hm : m ≠ i ∧ m ≠ j ∧ m ≠ k) (hk : reach ops 4 k m = true) :
    (w = W0 ∨ w = W1 ∨ w = W2) ∧ At4 i j k W0 W1 W2 W3 (fun x => L x ∨ x = m) w := by
  have e : ∀ q, q ≠ m → ((L q ∨ q = m) ↔ L q) := fun q hq => ⟨fun h => h.resolve_right hq, .inl⟩
  have h3 : ¬ L k := fun x => hL (reach_L hc 4 k hk x)
  unfold At4
  simp only
  rw [e i hm.1.symm, e j hm.2.1.symm, e k hm.2.2.symm]
  rcases h with h | h | h | h
  · exact ⟨.inl h.2.2.2, .inl h⟩
  · exact ⟨.inr (.inl h.2.2.2), .inr (.inl h)⟩
  · exact ⟨.inr (.inr h.2.2.2), .inr (.inr (.inl h))⟩
  · exact absurd h.2.2.1 h3
theorem at4_i (h : At4 i j k W0 W1 W2 W3 L w) (hL : ¬ L i) (hne : j ≠ i ∧ k ≠ i) : w = W0 ∧ At4 i j k W0 W1 W2 W3 (fun x => L x ∨ x = i) W1 := by
  rcases h with h | h | h | h
  · exact ⟨h.2.2.2, .inr (.inl ⟨.inr rfl, fun x => x.elim h.2.1 hne.1, fun x => x.elim h.2.2.1 hne.2, rfl⟩)⟩
  all_goals exact absurd h.1 hL
theorem at4_j (h : At4 i j k W0 W1 W2 W3 L w) (hL : ¬ L j) (hw : ∀ x, waits ops j x = true → L x) (hij : waits ops j i = true) (hne : i ≠ j ∧ k ≠ j) : w = W1 ∧ At4 i j k W0 W1 W2 W3 (fun x => L x ∨ x = j) W2 := by
  have hi := hw i hij
  rcases h with h | h | h | h
  · exact absurd hi h.1
  · exact ⟨h.2.2.2, .inr (.inr (.inl ⟨.inl hi, .inr rfl, fun x => x.elim h.2.2.1 hne.2, rfl⟩))⟩
  · exact absurd h.2.1 hL
  · exact absurd h.2.1 hL
theorem at4_k (h : At4 i j k W0 W1 W2 W3 L w) (hL : ¬ L k) (hw : ∀ x, waits ops k x = true → L x) (hjk : waits ops k j = true) : w = W2 ∧ At4 i j k W0 W1 W2 W3 (fun x => L x ∨ x = k) W3 := by
  have hj := hw j hjk
  rcases h with h | h | h | h
  · exact absurd hj h.2.1
  · exact absurd hj h.2.1
  · exact ⟨h.2.2.2, .inr (.inr (.inr ⟨.inl h.1, .inl hj, .inr rfl, rfl⟩))⟩
  · exact absurd h.2.2.1 hL
theorem at4_end (h : At4 i j k W0 W1 W2 W3 L w) {n : Nat} (hall : ∀ x, x < n → L x) (hk : k < n) : w = W3 := by
  have := hall k hk
  rcases h with h | h | h | h
  · exact absurd this h.2.2.1
  · exact absurd this h.2.2.1
  · exact absurd this h.2.2.1
  · exact h.2.2.2
end
end Go.Proofs.YtmdmbdbbpdojnaaGreatDoor
