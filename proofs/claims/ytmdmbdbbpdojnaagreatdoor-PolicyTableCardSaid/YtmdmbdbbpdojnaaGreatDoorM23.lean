/- Walks: policy.Compile. -/
import Derived.Test.YtmdmbdbbpdojnaaGreatDoorM21
import Derived.Test.YtmdmbdbbpdojnaaGreatDoorM22
import Derived.LoopTactic
import Derived.Stop.RegionWithIn
namespace Go.Proofs.YtmdmbdbbpdojnaaGreatDoor
open Go.RowKit Nam Pol Go.Maps
attribute [local go_sem] Oper.semAt_some wide_fn wide_depth wide_some gv_of

/-- What Compile's memory holds: the tree ns; w1: the world before the loops. -/
def CpI (w1 : World) (base b6 : Nat) (ns : List Nod) (ds : List Deferred) (V : World) : Prop :=
  ∃ v kvs, Boxed V b6 43 v ∧ NodesOwn V base v ns kvs ∧ (∃ ps, Tree ns ps) ∧ Below base w1 V ∧ Marks base V V.heap.size ds
theorem CpI.ext {w1 : World} {base b6 : Nat} {ns : List Nod} {ds : List Deferred} {V V' : World} (h : CpI w1 base b6 ns ds V) (hE : Ext V V') (hb : base ≤ w1.heap.size) : CpI w1 base b6 ns ds V' := by
  obtain ⟨v, kvs, h1, h2, h3, h4, h5⟩ := h
  exact ⟨v, kvs, ext_boxed hE h1, h2.ext hE, h3, h4.trans (hE.mono (Nat.le_trans hb h4.size)), (h5.ext hE).le hE.size⟩
/-- Within the range over a pattern's labels: bn is the box of the node's number. -/
def RgI (w1 : World) (base b6 bn : Nat) (ns0 : List Nod) (path : List ByteArray) (ds : List Deferred) (q : Nat) (V : World) : Prop :=
  ∃ ns m v kvs, downT ns0 (path.take q) = (ns, m) ∧ Boxed V b6 43 v ∧ NodesOwn V base v ns kvs ∧ Boxed V bn 3 (.int .i64 (m : Int)) ∧ (∀ (j : Nat) (kv : Value), kvs[j]? = some kv → kv.ownBlock ≠ some bn) ∧ Below base w1 V ∧ Marks base V bn ds
theorem RgI.st {w1 : World} {base b6 bn n0 : Nat} {ns0 : List Nod} {path : List ByteArray} {ds : List Deferred} {q : Nat} {A B : World} (h : RgI w1 base b6 bn ns0 path ds q A) (hf : St n0 CpC A B) (hb : base ≤ w1.heap.size) (hn : bn ≤ n0) (hbn : base ≤ bn) : RgI w1 base b6 bn ns0 path ds q B := by
  obtain ⟨ns, m, v, kvs, h1, h2, h3, h4, h5, h6, h7⟩ := h
  exact ⟨ns, m, v, kvs, h1, hf.boxed h2 (.inl cpNodes), h3.st hf, hf.boxed h4 (.inl cpInt), h5, h6.trans ((hf.mono (by omega)).below (Nat.le_trans hb h6.size)), h7.st (Nat.le_of_lt h4.lt) hn hf⟩
theorem NodesOwn.setInt {V : World} {base bn : Nat} {v : Value} {ns : List Nod} {kvs : List Value} {x : Value} (h : NodesOwn V base v ns kvs) (hb : Boxed V bn 3 x) (hap : ∀ (j : Nat) (kv : Value), kvs[j]? = some kv → kv.ownBlock ≠ some bn) (u : Value) : NodesOwn (V.setCell ⟨bn, 0, none⟩ u) base v ns kvs := by
  have hne : ∀ g, g ≠ bn → (V.setCell ⟨bn, 0, none⟩ u).heap[g]? = V.heap[g]? := fun g hg => Below.heap_setCell _ _ _ _ hg
  refine h.keep (fun g hg => hne g fun e => ?_) (fun j kv g hk hg => hne g fun e => hap j kv hk (by rw [hg, e]))
  subst e
  exact absurd (own_type h.row hg hb) (by decide)
theorem NodesOwn.setBox {V : World} {base b : Nat} {v : Value} {ns : List Nod} {kvs : List Value} {x : Value} (h : NodesOwn V base v ns kvs) (hb : Boxed V b 43 x) (u : Value) : NodesOwn (V.setCell ⟨b, 0, none⟩ u) base v ns kvs := by
  have hne : ∀ g, g ≠ b → (V.setCell ⟨b, 0, none⟩ u).heap[g]? = V.heap[g]? := fun g hg => Below.heap_setCell _ _ _ _ hg
  refine h.keep (fun g hg => hne g fun e => ?_) (fun j kv g hk hg => hne g fun e => ?_)
  · subst e
    exact absurd (own_type h.row hg hb) (by decide)
  · subst e
    obtain ⟨y, hy⟩ := h.get hk
    exact absurd (own_type (h.kids j y kv hy hk) hg hb) (by decide)
theorem own_cells {w w' : World} {base : Nat} {e : TypeId} {m n : Nat} {v : Value} {xs : List Value} (h : w.ownsRow base e m v n xs) (s6 : ∀ (k : Nat) (c : Array Value) (t : TypeId) (f : Nat × Nat), w.heap[k]? = some (.cells c t f) → w'.heap[k]? = some (.cells c t f)) : ∀ g, v.ownBlock = some g → w'.heap[g]? = w.heap[g]? := fun g hg => by
  rcases h.2 with ⟨rfl, _⟩ | ⟨g', cap, cur, rfl, _, hh, _⟩
  · simp [Value.ownBlock] at hg
  · simp only [Value.ownBlock, Option.some.injEq] at hg
    subst hg
    exact (s6 _ _ _ _ hh).trans hh.symm
theorem lab_size {p : ByteArray} (h : rpatB p.data.toList = true) {X : ByteArray} (hX : X ∈ pathP p) : X.size ≤ maxLen := by
  unfold pathP revL at hX
  obtain ⟨xl, hx, rfl⟩ := List.mem_map.1 hX
  have h1 := (isB_iff.1 (name_of h)).2.2 xl (List.mem_reverse.1 hx)
  unfold labelB at h1
  simp only [Bool.and_eq_true, decide_eq_true_eq] at h1
  rw [size_bs]
  unfold maxLen; omega
theorem gives_append {P : Program} {o : Oper} {a : Act} {w w' : World} {s x : Operand} {t : TypeId} {v xv v' : Value} {G : Value → World → Prop} (ho : o.op = .call { callee := .builtin .append, args := #[s, x], argTypes := #[t, t] }) (hs : a.eval s = v) (hx : a.eval x = xv)
    (hr : (Builtin.append_ #[t, t] o.type #[v, xv]).run P w = .ok v' w') (hG : G v' w') : Gives P o a w G := by
  unfold Gives execOp
  simp only [ho, resolve, invoke, builtin, Sem.run_bind, Sem.run_pure, Result.andThen_ok, List.map_toArray, List.map_cons, List.map_nil, hs, hx, hr]
  exact hG
set_option maxRecDepth 100000 in
theorem ofFn97 (t : Nat → Value) : Array.ofFn (n := 97) (fun i => t i.val) = #[t 0, t 1, t 2, t 3, t 4, t 5, t 6, t 7, t 8, t 9, t 10, t 11, t 12, t 13, t 14, t 15, t 16, t 17, t 18, t 19, t 20, t 21, t 22, t 23, t 24, t 25, t 26, t 27, t 28, t 29, t 30, t 31, t 32, t 33, t 34, t 35, t 36, t 37, t 38, t 39, t 40, t 41, t 42, t 43, t 44, t 45, t 46, t 47, t 48, t 49, t 50, t 51, t 52, t 53, t 54, t 55, t 56, t 57, t 58, t 59, t 60, t 61, t 62, t 63, t 64, t 65, t 66, t 67, t 68, t 69, t 70, t 71, t 72, t 73, t 74, t 75, t 76, t 77, t 78, t 79, t 80, t 81, t 82, t 83, t 84, t 85, t 86, t 87, t 88, t 89, t 90, t 91, t 92, t 93, t 94, t 95, t 96] := by kernel_rfl
theorem arr97 (A : Array Value) (h : A.size = 97) : ∃ t : Nat → Value, (∀ i, t i = A.getD i undef) ∧ A = #[t 0, t 1, t 2, t 3, t 4, t 5, t 6, t 7, t 8, t 9, t 10, t 11, t 12, t 13, t 14, t 15, t 16, t 17, t 18, t 19, t 20, t 21, t 22, t 23, t 24, t 25, t 26, t 27, t 28, t 29, t 30, t 31, t 32, t 33, t 34, t 35, t 36, t 37, t 38, t 39, t 40, t 41, t 42, t 43, t 44, t 45, t 46, t 47, t 48, t 49, t 50, t 51, t 52, t 53, t 54, t 55, t 56, t 57, t 58, t 59, t 60, t 61, t 62, t 63, t 64, t 65, t 66, t 67, t 68, t 69, t 70, t 71, t 72, t 73, t 74, t 75, t 76, t 77, t 78, t 79, t 80, t 81, t 82, t 83, t 84, t 85, t 86, t 87, t 88, t 89, t 90, t 91, t 92, t 93, t 94, t 95, t 96] := by
  refine ⟨fun i => A.getD i undef, fun _ => rfl, ?_⟩
  rw [← ofFn97 fun i => A.getD i undef]
  apply Array.ext
  · simp [h]
  · intro i h1 h2
    simp [Array.getD, h1]
set_option maxRecDepth 100000 in
set_option maxHeartbeats 8000000 in
theorem Compile_any (l : List Rul) (a : Option Addr) (cap n : Nat) (w : World) (hn : l.length = n) (hnc : n ≤ cap) (hcm : cap ≤ maxLen) (hl : Ruls w a l) (hfew : n ≤ 1000) (hpf : ∀ r ∈ l, r.pats.length ≤ 1000) (hw : Env w) :
    Calls Tryz.prog 25 #[.slice a n cap] w (RetTab (compR l) (compN l) (rightE l) w) := by
  have HN := Lib.hid hn; have HNC := Lib.hid hnc; have HCM := Lib.hid hcm; have HL := Lib.hid hl; have HFE := Lib.hid hfew; have HW := Lib.hid hw; have HPF := Lib.hid hpf
  unfold maxLen at hcm
  obtain ⟨x, hx⟩ : ∃ x, rightE l = x := ⟨_, rfl⟩
  obtain ⟨i0, hi0, hz0, hz1', hz2'⟩ := info_parts Tryz.infoNode
  have HX := Lib.hid hx
  clear hn hl hx hw hpf
  refine (callsIn_wide (n := 0)).1 ?_
  refine callsIn_of_wp_marks Tryz.func25 rfl trivial ?_ rfl
  simp only [Tryz.ntmps25, List.size_toArray, List.length_cons, List.length_nil, Nat.reduceAdd, Nat.reduceSub, Array.replicate_succ, Array.replicate_zero, List.push_toArray, List.append_toArray, List.nil_append, List.cons_append]
  have hb0 : TabB (w.alloc (Obj.cells #[.slice none 0 0, .slice none 0 0] 45)) w.heap.size (.slice none 0 0) (.slice none 0 0) := TabB.new _ _ _
  have B0 := Lib.hid hb0
  have HE0 : Hid (Ext w (w.alloc (Obj.cells #[.slice none 0 0, .slice none 0 0] 45))) := Lib.hid (ext_alloc (Below.refl _ _) _)
  clear hb0
  by_cases h0 : x = 0
  · have t0 : (x != 0) = false := by simpa using h0
    have HR := Lib.hid (rightE_iff.1 (HX.out.trans h0))
    have HC := Lib.hid (show compR l = l ∧ compN l = treeOf l from ⟨by unfold compR; rw [if_pos (HX.out.trans h0)], by unfold compN; rw [if_pos (HX.out.trans h0)]⟩)
    have H0 := Lib.hid h0
    clear h0
    gi_wp2_with (gi_at_call 39; refine (callsIn_wide.2 (right_any l a cap n _ HN.out HNC.out HCM.out (HL.out.ext HE0.out) HFE.out HPF.out)).mono ?_; rintro e w1 ⟨rfl, hE1⟩; rw [HX.out]; have HE1 := Lib.hid hE1; clear hE1)
    obtain ⟨w1a, hw1a⟩ : ∃ w1a, w1.alloc (Obj.cells #[.string ⟨#[]⟩, .int .i64 (-1), .int .i64 (-1), .slice none 0 0] 62) = w1a := ⟨_, rfl⟩
    have hz1 : w1a.heap.size = w1.heap.size + 1 := by rw [← hw1a]; simp
    have hN0 := nodes_new w1a w1a.heap.size (Nat.le_refl _)
    obtain ⟨W2, hW2⟩ : ∃ W2, (w1a.alloc (Obj.cells #[.string ⟨#[]⟩, .int .i64 (-1), .int .i64 (-1), .slice none 0 0] 62)).alloc (Obj.cells #[.slice (some ⟨w1a.heap.size, 0, none⟩) 1 1] 43) = W2 := ⟨_, rfl⟩
    have hz2 : W2.heap.size = w1.heap.size + 3 := by rw [← hW2]; simp; omega
    have hE2 : Ext w1 W2 := by rw [← hW2, ← hw1a]; exact ext_alloc (ext_alloc (ext_alloc (Below.refl _ _) _) _) _
    have hb6 : Boxed W2 (w1.heap.size + 1 + 1) 43 (.slice (some ⟨w1a.heap.size, 0, none⟩) 1 1) := by rw [← hW2]; have := Boxed.new (w1a.alloc (Obj.cells #[.string ⟨#[]⟩, .int .i64 (-1), .int .i64 (-1), .slice none 0 0] 62)) 43 (.slice (some ⟨w1a.heap.size, 0, none⟩) 1 1); rw [World.size_alloc] at this; rwa [show w1.heap.size + 1 + 1 = w1a.heap.size + 1 by omega]
    have hb5 : W2.heap[w1.heap.size]? = some (.cells #[.string ⟨#[]⟩, .int .i64 (-1), .int .i64 (-1), .slice none 0 0] 62 (0, 0)) := by
      have h1 : w1a.heap[w1.heap.size]? = some (.cells #[.string ⟨#[]⟩, .int .i64 (-1), .int .i64 (-1), .slice none 0 0] 62 (0, 0)) := by rw [← hw1a]; exact World.alloc_heap_new _ _
      rw [← hW2]
      exact ((ext_alloc (ext_alloc (Below.refl _ w1a) _) _).block _ (by omega)).trans h1
    have hno : NodesOwn W2 w1a.heap.size (.slice (some ⟨w1a.heap.size, 0, none⟩) 1 1) [blankN ⟨#[]⟩] [.slice none 0 0] := by rw [← hW2]; exact hN0.ext (ext_alloc (Below.refl _ _) _)
    rw [hz1] at hno hb6
    have hbt := (B0.out.ext (ext_trans HE1.out hE2))
    have hCP : CpI W2 (w1.heap.size + 1) (w1.heap.size + 1 + 1) [blankN ⟨#[]⟩] [] W2 := ⟨_, _, hb6, hno, ⟨_, Tree.start⟩, Below.refl _ _, trivial⟩
    rw [hw1a, show w1.heap.size + 1 = w1a.heap.size from hz1.symm, hW2]
    have hEw : Ext w W2 := ext_trans (ext_trans HE0.out HE1.out) hE2
    obtain ⟨b5, hb5e⟩ : ∃ b5, w1.heap.size = b5 := ⟨_, rfl⟩
    obtain ⟨base, hbase⟩ : ∃ base, w1a.heap.size = base := ⟨_, rfl⟩
    obtain ⟨b6, hb6e⟩ : ∃ b6, base + 1 = b6 := ⟨_, rfl⟩
    have hbase' : b5 + 1 = base := by omega
    have hwb : w.heap.size < b5 := by rw [← hb5e]; exact (B0.out.ext HE1.out).lt
    rw [hb5e] at hb5 hz2 ⊢
    rw [show w1.heap.size + 1 = base by omega, hb6e] at hCP
    rw [hbase, hb6e]
    have hbz : W2.heap.size = base + 2 := by omega
    have HB5 := Lib.hid hb5; have HBT := Lib.hid hbt; have HCP := Lib.hid hCP; have HEW := Lib.hid hEw; have HBZ := Lib.hid hbz
    clear hw1a hz1 hN0 hW2 hz2 hE2 hb6 hb5 hno hbt hCP hEw hb5e hbase hbz HE1 B0 HE0
    refine wpIn_loop (fun a' wr => a'.tmps.size = 97 ∧ a'.tmps.getD 0 undef = .slice a n cap ∧ a'.tmps.getD 2 undef = .pointer (some ⟨w.heap.size, 0, none⟩) ∧ a'.tmps.getD 5 undef = .pointer (some ⟨b5, 0, none⟩) ∧ a'.tmps.getD 6 undef = .pointer (some ⟨b6, 0, none⟩) ∧ a'.tmps.getD 27 undef = .slice a n cap ∧ a'.tmps.getD 28 undef = .int .i64 (n : Int) ∧ ∃ (k : Nat), k ≤ n ∧ a'.tmps.getD 29 undef = .int .i64 (k : Int) ∧ CpI W2 base b6 (treeTo l k) a'.defers wr ∧ (treeTo l k).length ≤ 1 + 64 * k) (fun a' _ => n - (intOf (a'.tmps.getD 29 undef)).toNat) ?atStart ?round
    case atStart => exact ⟨rfl, rfl, rfl, rfl, rfl, rfl, rfl, 0, Nat.zero_le _, rfl, HCP.out, Nat.le_refl _⟩
    case round =>
      rintro ⟨A, ds⟩ wr ⟨hsz, h0, h2, h5, h6, h27, h28, k, hk, h29, hcp, hle⟩
      obtain ⟨t, ht, rfl⟩ := arr97 A hsz
      clear ht hsz
      have e0 : t 0 = .slice a n cap := h0
      have e2 : t 2 = .pointer (some ⟨w.heap.size, 0, none⟩) := h2
      have e5 : t 5 = .pointer (some ⟨b5, 0, none⟩) := h5
      have e6 : t 6 = .pointer (some ⟨b6, 0, none⟩) := h6
      have e27 : t 27 = .slice a n cap := h27
      have e28 : t 28 = .int .i64 (n : Int) := h28
      have e29 : t 29 = .int .i64 (k : Int) := h29
      rw [e0, e2, e5, e6, e27, e28, e29]
      clear h0 h2 h5 h6 h27 h28 h29 e0 e2 e5 e6 e27 e28 e29
      change CpI W2 base b6 (treeTo l k) ds wr at hcp
      have HCI := Lib.hid hcp
      have HXW := Lib.hid (HEW.out.trans (hcp.choose_spec.choose_spec.2.2.2.1.mono (by have := HBZ.out; have := HEW.out.size; omega)))
      clear hcp
      have hfw := HR.out.few
      rw [HN.out] at hfw
      have hfw1 := hfw.1
      by_cases hlt : k < n
      · obtain ⟨r, hr⟩ := get_some HN.out hlt
        obtain ⟨b, off, rfl, q0, q1, ⟨pa, pc, q2, l1, l2, hps⟩, q3, q4, q5, q6, q7, q8⟩ := HL.out k r hr
        replace q0 := ext_cell q0 HXW.out; replace q1 := ext_cell q1 HXW.out; replace q2 := ext_cell q2 HXW.out; replace q3 := ext_cell q3 HXW.out; replace q4 := ext_cell q4 HXW.out; replace q5 := ext_cell q5 HXW.out; replace q6 := ext_cell q6 HXW.out
        have HRR := Lib.hid hr; have HPS0 := Lib.hid hps
        have hp8 := hfw.2 r (List.mem_of_getElem? hr)
        have HVP := Lib.hid ((HR.out.pats (List.mem_of_getElem? hr)).2)
        obtain ⟨np, hnp⟩ : ∃ m, r.pats.length = m := ⟨_, rfl⟩
        have NP := Lib.hid hnp
        rw [hnp] at q2 l1 hp8
        unfold maxLen at l2
        have hkc : k ≤ cap := by omega
        clear hr hps hnp hfw q7 q8
        gi_wp2
        obtain ⟨wr1, hwr1⟩ : ∃ wr1, wr.alloc (Obj.cells #[.string r.name, .bool r.allow, .slice pa np pc, .int .u64 r.keyMin, .int .i64 r.lifeMax, .int .i64 r.most, .int .i64 r.window] 54) = wr1 := ⟨_, rfl⟩
        have hE1 : Ext wr wr1 := by rw [← hwr1]; exact ext_alloc (Below.refl _ _) _
        have HCI1 := Lib.hid (HCI.out.ext hE1 (by have := HBZ.out; omega))
        rw [hwr1]
        clear hwr1 q0 q1 q2 q3 q4 q5 q6 hE1
        refine wpIn_loop (fun a' wr => a'.tmps.size = 97 ∧ a'.tmps.getD 0 undef = .slice (some ⟨b, off, none⟩) n cap ∧ a'.tmps.getD 2 undef = .pointer (some ⟨w.heap.size, 0, none⟩) ∧ a'.tmps.getD 5 undef = .pointer (some ⟨b5, 0, none⟩) ∧ a'.tmps.getD 6 undef = .pointer (some ⟨b6, 0, none⟩) ∧ a'.tmps.getD 7 undef = .int .i64 (k : Int) ∧ a'.tmps.getD 27 undef = .slice (some ⟨b, off, none⟩) n cap ∧ a'.tmps.getD 28 undef = .int .i64 (n : Int) ∧ a'.tmps.getD 29 undef = .int .i64 (k : Int) ∧ a'.tmps.getD 35 undef = .slice pa np pc ∧ a'.tmps.getD 36 undef = .int .i64 (np : Int) ∧ ∃ (j : Nat), j ≤ np ∧ a'.tmps.getD 37 undef = .int .i64 (j : Int) ∧ CpI W2 base b6 (putAll (treeTo l k) (r.pats.take j) k) a'.defers wr ∧ (putAll (treeTo l k) (r.pats.take j) k).length ≤ 1 + 64 * k + 8 * j) (fun a' _ => np - (intOf (a'.tmps.getD 37 undef)).toNat) ?atStart ?round
        case atStart => exact ⟨rfl, rfl, rfl, rfl, rfl, rfl, rfl, rfl, rfl, rfl, rfl, 0, Nat.zero_le _, rfl, HCI1.out, by simpa [putAll] using hle⟩
        case round =>
          rintro ⟨A, ds2⟩ wr2 ⟨hsz, g0, g2, g5, g6, g7, g27, g28, g29, g35, g36, j, hj, g37, hcp, hle⟩
          obtain ⟨t2, ht2, rfl⟩ := arr97 A hsz
          clear ht2 hsz
          have e0 : t2 0 = .slice (some ⟨b, off, none⟩) n cap := g0
          have e2 : t2 2 = .pointer (some ⟨w.heap.size, 0, none⟩) := g2
          have e5 : t2 5 = .pointer (some ⟨b5, 0, none⟩) := g5
          have e6 : t2 6 = .pointer (some ⟨b6, 0, none⟩) := g6
          have e7 : t2 7 = .int .i64 (k : Int) := g7
          have e27 : t2 27 = .slice (some ⟨b, off, none⟩) n cap := g27
          have e28 : t2 28 = .int .i64 (n : Int) := g28
          have e29 : t2 29 = .int .i64 (k : Int) := g29
          have e35 : t2 35 = .slice pa np pc := g35
          have e36 : t2 36 = .int .i64 (np : Int) := g36
          have e37 : t2 37 = .int .i64 (j : Int) := g37
          rw [e0, e2, e5, e6, e7, e27, e28, e29, e35, e36, e37]
          clear g0 g2 g5 g6 g7 g27 g28 g29 g35 g36 g37 e0 e2 e5 e6 e7 e27 e28 e29 e35 e36 e37
          change CpI W2 base b6 (putAll (treeTo l k) (r.pats.take j) k) ds2 wr2 at hcp
          obtain ⟨v, kvs, hb6, hno, htr, hbl, hmk⟩ := hcp
          have HB6 := Lib.hid hb6; have HNO := Lib.hid hno; have HTR := Lib.hid htr; have HBL := Lib.hid hbl; have HMK := Lib.hid hmk
          have HE2 := Lib.hid (HEW.out.trans (hbl.mono (by have := HBZ.out; have := HEW.out.size; omega)))
          have hszb := hbl.size
          clear hb6 hno htr hbl hmk
          by_cases hlj : j < np
          · obtain ⟨p, hp⟩ := get_some NP.out hlj
            obtain ⟨b', off', hpa, d0, hpz⟩ := (HPS0.out.ext HE2.out) j p hp
            subst hpa
            rw [Nat.mul_one] at d0
            have HP := Lib.hid (putAll_snoc (ns := treeTo l k) (i := (k : Int)) hp)
            have HV := Lib.hid (HVP.out p (List.mem_of_getElem? hp))
            have hpz' : p.size ≤ 9223372036854775807 := hpz
            have hjc : j ≤ pc := by omega
            obtain ⟨O, hO⟩ : ∃ O : ByteArray, (⟨(if starB p.data.toList then p.data.toList.drop 2 else p.data.toList).toArray⟩ : ByteArray) = O := ⟨_, rfl⟩
            have hOp : O.data.toList = ofP p := by rw [← hO]; rfl
            have hOs : O.size ≤ 9223372036854775807 := by
              rw [Lib.size_eq, hOp]
              have := (isB_iff.1 (name_of HV.out)).1
              omega
            have HO := Lib.hid hO
            have HLP := Lib.hid (labs_path HV.out hOp)
            have HSTAR := Lib.hid (prefix_star HV.out)
            clear hp hpz hO hOp
            gi_wp2_with (first | (gi_at_call 55; refine (callsIn_wide.2 (CutPrefix_star _ _ _ HSTAR.out)).mono ?_; rintro e w' ⟨rfl, rfl⟩; rw [HO.out]) | (gi_at_call 56; refine (callsIn_wide.2 (back_any _ _)).mono ?_; rintro e w' ⟨rfl, rfl⟩))
            obtain ⟨bn, hbn⟩ : ∃ bn, wr2.heap.size = bn := ⟨_, rfl⟩
            obtain ⟨V0, hV0⟩ : ∃ V0, (wr2.alloc (Obj.cells #[.int .i64 0] 3)).alloc (Obj.cells #[.string O] 9) = V0 := ⟨_, rfl⟩
            have hE3 : Ext wr2 V0 := by rw [← hV0]; exact ext_alloc (ext_alloc (Below.refl _ _) _) _
            have hz3 : V0.heap.size = bn + 2 := by rw [← hV0, ← hbn]; simp
            have hbn0 : Boxed V0 bn 3 (.int .i64 (0 : Nat)) := by rw [← hV0, ← hbn]; exact (Boxed.new _ _ _).alloc _
            have hbs : Boxed V0 (bn + 1) 9 (.string O) := by rw [← hV0, ← hbn]; have := Boxed.new (wr2.alloc (Obj.cells #[.int .i64 0] 3)) 9 (.string O); rwa [World.size_alloc] at this
            rw [hV0, hbn]
            have hbb : base ≤ bn := by have := HBZ.out; omega
            have hbW : base ≤ W2.heap.size := by have := HBZ.out; omega
            have hb6n : b6 < bn := by have := HBZ.out; omega
            have HW3 := Lib.hid (HW.out.ext (ext_trans HE2.out hE3))
            obtain ⟨ns0, hns0⟩ : ∃ ns0, putAll (treeTo l k) (r.pats.take j) k = ns0 := ⟨_, rfl⟩
            have hI0 : RgI W2 base b6 bn ns0 (labsB O) ds2 0 V0 := by
              refine ⟨ns0, 0, v, kvs, rfl, ext_boxed hE3 HB6.out, by rw [← hns0]; exact HNO.out.ext hE3, hbn0, fun q kv hq hb => ?_, HBL.out.trans (hE3.mono (by omega)), by rw [← hbn]; exact HMK.out.ext hE3⟩
              obtain ⟨y, hy⟩ := HNO.out.get hq
              have := ((HNO.out.kids q y kv hy hq).lt bn hb).2
              omega
            have HTR0 : Hid (∃ ps, Tree ns0 ps) := by rw [← hns0]; exact HTR
            have hle0 : ns0.length ≤ 100000 := by rw [← hns0]; omega
            have hpl : (labsB O).length ≤ 8 := by rw [HLP.out]; exact (path_len HV.out).1
            have HZ3 := Lib.hid hz3
            have nC1 : ¬ CpC 23 := by unfold CpC; decide
            have nC2 : ¬ CpC 9 := by unfold CpC; decide
            have nC3 : ¬ CpC 80 := by unfold CpC; decide
            clear hV0 hz3 hbn hE3
            have hz3 := HZ3.out
            refine range_law2 (C := CpC) rfl (enters_of Tryz.func86 (by kernel_rfl) rfl) (back1_iter O (bn + 1) hOs CpC nC1 nC2 nC3)
              (fun o1 o2 => ⟨(hbs.alloc _).alloc _, HW3.out.ext (ext_alloc (ext_alloc (Below.refl _ _) _) _)⟩) (fun x => rfl)
              (fun _ => False) (fun b hb => hb.elim)
              (fun q V => RgI W2 base b6 bn ns0 (labsB O) ds2 q V) (fun _ _ _ => False)
              (fun q A B h hf => h.st hf hbW (by omega) hbb) (fun c k A B h _ => h) hI0 ?rgRound ?rgDone (fun c k V _ h _ => h.elim)
            case rgRound =>
              rintro lo q X V hx rfl hV hi
              have HX2 := Lib.hid hx; have HI := Lib.hid hi
              clear hx hi
              unfold encB
              gi_wp2
              refine ⟨KpS.refl _, HI.out, ?_⟩
              clear HI
              rintro Vb ⟨ns', m, v', kvs', i1, i2, i3, i4, i5, i6, i7⟩ - -
              obtain ⟨ps0, hps0⟩ := HTR0.out
              obtain ⟨ps', ht', hn'⟩ := down_tree hps0 ((labsB O).take q)
              rw [i1] at ht' hn'
              simp only at ht' hn'
              have hnl : m < ns'.length := by rw [← ht'.len]; exact (List.getElem?_eq_some_iff.1 hn').1
              have hlen : ns'.length ≤ 100008 := by
                have := down_len ((labsB O).take q) (ns0, 0)
                unfold downT at i1
                rw [i1, List.length_take] at this
                simp only at this; omega
              have hstep : downT ns0 ((labsB O).take (q + 1)) = Pol.stepT (ns', m) X := by
                have h1 := foldl_take_snoc HX2.out Pol.stepT (ns0, 0)
                unfold downT at i1 ⊢
                rw [h1, i1]
              obtain ⟨g, cap', hv', hg1, hg2, hg3, hg4⟩ := i3.form (by intro e; rw [e] at hnl; simp at hnl)
              subst hv'
              obtain ⟨xn, hxn⟩ := get_some (l := ns') (n := ns'.length) rfl hnl
              obtain ⟨na, nc, hnv, hnc1, hnc2, hnods⟩ := i3.nods
              cases hnv
              have HSTEP := Lib.hid hstep; have HXN := Lib.hid hxn; have HTT := Lib.hid ht'; have HNP := Lib.hid hn'; have HG4 := Lib.hid hg4; have HND := Lib.hid hnods
              have HKI := Lib.hid (ht'.kidsIn hxn)
              have HLS := Lib.hid (lab_size HV.out (X := X) (by rw [← HLP.out]; exact List.mem_of_getElem? HX2.out))
              unfold maxLen at hg4
              have c6 := i2.cell; have f6 := i2.frozen; have cn := i4.cell; have fn := i4.frozen
              have I2 := Lib.hid i2; have I3 := Lib.hid i3; have I4 := Lib.hid i4; have I5 := Lib.hid i5; have I6 := Lib.hid i6; have I7 := Lib.hid i7
              clear hstep ht' hn' hps0 i1 i2 i3 i4 i5 i6 i7 hnods
              cases hq : kidIn ns' X xn.kids with
              | some q' =>
                obtain ⟨m2, rfl, _, hm⟩ := HTT.out.kid_some hxn HNP.out hq
                have HKD := Lib.hid hq
                have HS2 := Lib.hid ((HSTEP.out).trans (stepT_some hxn hq))
                clear hxn hq hm
                gi_wp2_with (gi_at_call 57; refine (callsIn_wide.2 (kid_any ns' X (some ⟨g, 0, none⟩) cap' ns'.length m xn _ rfl hg3 HG4.out HND.out HXN.out HKI.out)).mono ?_; rintro e w3 ⟨rfl, hE3⟩; rw [HKD.out]; have kn := ext_boxed hE3 I4.out; have fn3 := kn.frozen; have cn3 := kn.cell; have KN := Lib.hid kn; have HE3 := Lib.hid hE3; clear hE3 kn)
                have hF : Fr (fun b => b = bn) w3 (w3.setCell ⟨bn, 0, none⟩ (.int .i64 (m2 : Int))) := Fr.setCell _ _ _ rfl
                refine ⟨(KpS.of_ext HE3.out).trans (KpS.setCell _ _ _ (cc_boxed KN.out cpInt)), ns', m2, _, kvs', by rw [HS2.out, Int.toNat_natCast], hF.boxed (ext_boxed HE3.out I2.out) (by omega), (I3.out.ext HE3.out).setInt KN.out I5.out _, KN.out.set _, I5.out, (I6.out.trans (HE3.out.mono (by have := I6.out.size; omega))).setCell (by simpa using hbb) _, (I7.out.ext HE3.out).of_eq fun i hi hd => (Below.heap_setCell _ _ _ _ (by simp; omega)).trans hd⟩
              | none =>
                have HKD := Lib.hid hq
                have HS2 := Lib.hid ((HSTEP.out).trans (stepT_none hxn hq))
                obtain ⟨kv, hkv, _⟩ := I3.out.kv hxn
                have HKV := Lib.hid hkv
                have hkl := HTT.out.kids_le hxn
                have HNL := Lib.hid hnl
                have h5 := (I6.out.block b5 (by omega)).trans HB5.out
                have c50 : Vb.cell? ⟨b5, 0, none⟩ = some (.string ⟨#[]⟩) := by simp [World.cell?, h5]
                have c51 : Vb.cell? ⟨b5, 1, none⟩ = some (.int .i64 (-1)) := by simp [World.cell?, h5]
                have c52 : Vb.cell? ⟨b5, 2, none⟩ = some (.int .i64 (-1)) := by simp [World.cell?, h5]
                have c53 : Vb.cell? ⟨b5, 3, none⟩ = some (.slice none 0 0) := by simp [World.cell?, h5]
                have HC5 := Lib.hid (And.intro c50 (And.intro c51 (And.intro c52 c53)))
                clear hxn hq hkv h5 c50 c51 c52 c53
                gi_wp2_with (gi_at_call 57; refine (callsIn_wide.2 (kid_any ns' X (some ⟨g, 0, none⟩) cap' ns'.length m xn _ rfl hg3 HG4.out HND.out HXN.out HKI.out)).mono ?_; rintro e w3 ⟨rfl, hE3⟩; rw [HKD.out]; obtain ⟨z0, z1, z2, z3⟩ := HC5.out; replace z0 := ext_cell z0 hE3; replace z1 := ext_cell z1 hE3; replace z2 := ext_cell z2 hE3; replace z3 := ext_cell z3 hE3; have kn := ext_boxed hE3 I4.out; have k6 := ext_boxed hE3 I2.out; have cn3 := kn.cell; have c63 := k6.cell; have KN := Lib.hid kn; have K6 := Lib.hid k6; have HE3 := Lib.hid hE3; clear hE3 kn k6)
                obtain ⟨Vc, hVc⟩ : ∃ Vc, w3.alloc (Obj.cells #[.string X, .int .i64 (-1), .int .i64 (-1), .slice none 0 0] 62) = Vc := ⟨_, rfl⟩
                have hEc : Ext Vb Vc.drew := by rw [← hVc]; exact ext_trans HE3.out (ext_trans (ext_alloc (Below.refl _ _) _) ((Fr.drew (fun _ => False) _).ext (fun _ _ h => h)))
                have h17 : Vc.heap[w3.heap.size]? = some (.cells #[.string X, .int .i64 (-1), .int .i64 (-1), .slice none 0 0] 62 (0, 0)) := by rw [← hVc]; exact World.alloc_heap_new _ _
                obtain ⟨b17, hb17⟩ : ∃ b17, w3.heap.size = b17 := ⟨_, rfl⟩
                have hb17n : Vb.heap.size ≤ b17 := by rw [← hb17]; exact HE3.out.size
                rw [hVc, hb17]
                rw [hb17] at h17
                have hEd : Ext Vb (Vc.drew.alloc (Obj.cells #[.int .i64 (ns'.length : Int)] 3)) := ext_alloc hEc _
                have hno1 := I3.out.ext hEd
                have hkx := hno1.kids m xn kv HXN.out HKV.out
                obtain ⟨i1, gi, gz0, gz1, gz2⟩ := info_parts Tryz.infoInt
                obtain ⟨kv', Wq, hrun, hown6, hgrow6, _, hat6⟩ := run_append_own_at (P := Tryz.prog) (Vc.drew.alloc (Obj.cells #[.int .i64 (ns'.length : Int)] 3)) base 30 30 3 i1 (.int .i64 0) 1 8 Tryz.underlying30 gi gz0 gz1 gz2 rfl (by decide) kv _ _ hkx ⟨Vc.drew.heap.size, 0, none⟩ 1 1 [.int .i64 (ns'.length : Int)] rfl (one_cell_new _ _ _) (by simp [Value.oneCell']) (by unfold maxLen; omega) (by omega) (by have := hEd.size; have := I6.out.size; omega)
                obtain ⟨g6, cap6, rfl⟩ := own_succ hown6
                have hr6 := hno1.row.kept hgrow6 (own_apart hno1.row hkx (by decide))
                have fz6 : Wq.frozen? ⟨g, m * 4 + 3, none⟩ = false := hr6.frozenAt _
                have hz6 : (ns'.zip kvs')[m]? = some (xn, kv) := List.getElem?_zip_eq_some.2 ⟨HXN.out, HKV.out⟩
                have c6q : Wq.cell? ⟨g, m * 4 + 3, none⟩ = some kv := own_cell hr6 rfl (by rw [flat_get (f := nodC) (fun _ => rfl) 3 hz6 (by decide)]; rfl)
                have hFq := Fr.grown hgrow6
                have kne6 : ¬ kv.ownBlock = some b6 := fun e => absurd (own_type hkx e (ext_boxed hEd I2.out)) (by decide)
                have knen : ¬ kv.ownBlock = some bn := I5.out m kv HKV.out
                have q6 : Boxed Wq b6 43 _ := hFq.boxed (ext_boxed hEd I2.out) kne6
                have qn : Boxed Wq bn 3 _ := hFq.boxed (ext_boxed hEd I4.out) knen
                have hIn : ∀ w', (w' = Vc.drew ∨ w' = Vc.drew.alloc (Obj.cells #[.int .i64 (ns'.length : Int)] 3) ∨ w' = Wq) → w'.cell? ⟨b6, 0, none⟩ = some (.slice (some ⟨g, 0, none⟩) ns'.length cap') ∧ w'.cell? ⟨bn, 0, none⟩ = some (.int .i64 (m : Int)) ∧ w'.cell? ⟨g, m * 4 + 3, none⟩ = some kv := by
                  rintro w' (rfl | rfl | rfl)
                  · exact ⟨(ext_boxed hEc I2.out).cell, (ext_boxed hEc I4.out).cell, ((I3.out.ext hEc).cells rfl HXN.out HKV.out).2.2.2⟩
                  · exact ⟨(ext_boxed hEd I2.out).cell, (ext_boxed hEd I4.out).cell, (hno1.cells rfl HXN.out HKV.out).2.2.2⟩
                  · exact ⟨q6.cell, qn.cell, c6q⟩
                have H7 := Lib.hid (hno1.kid (g := g) (cap := cap') (j := m) (k := (ns'.length : Int)) rfl HXN.out HKV.out hown6 hgrow6 hat6)
                have HRUN := Lib.hid hrun
                clear hVc hb17 z0 z1 z2 z3 cn3 c63
                refine wpIn_region_L (r := some _) (by kernel_rfl) (by kernel_rfl) (by kernel_rfl) (by kernel_rfl) (by kernel_rfl) (by kernel_rfl) (At4 8 9 12 Vc.drew (Vc.drew.alloc (Obj.cells #[.int .i64 (ns'.length : Int)] 3)) Wq (Wq.setCell ⟨g, m * 4 + 3, none⟩ (.slice (some ⟨g6, 0, none⟩) (xn.kids.length + 1) cap6))) (.inl ⟨fun h => h, fun h => h, fun h => h, rfl⟩) ?_
                refine stepsL_run (v := ?_) rfl (fun L w' hS hL hw hc => ?_) ?_; rotate_left; (focus (obtain ⟨hxx, hS'⟩ := at4_quiet hS _ hL hc (by decide) (by kernel_rfl); obtain ⟨ea, eb, ec⟩ := hIn _ hxx; unfold Gives; go_simp; exact is_mk hS')); simp only [Act.put, List.setIfInBounds_toArray, List.set_cons_succ, List.set_cons_zero]
                refine stepsL_run (v := ?_) rfl (fun L w' hS hL hw hc => ?_) ?_; rotate_left; (focus (obtain ⟨hxx, hS'⟩ := at4_quiet hS _ hL hc (by decide) (by kernel_rfl); obtain ⟨ea, eb, ec⟩ := hIn _ hxx; unfold Gives; go_simp; exact is_mk hS')); simp only [Act.put, List.setIfInBounds_toArray, List.set_cons_succ, List.set_cons_zero]
                refine stepsL_run (v := ?_) rfl (fun L w' hS hL hw hc => ?_) ?_; rotate_left; (focus (obtain ⟨hxx, hS'⟩ := at4_quiet hS _ hL hc (by decide) (by kernel_rfl); obtain ⟨ea, eb, ec⟩ := hIn _ hxx; unfold Gives; go_simp; exact is_mk hS')); simp only [Act.put, List.setIfInBounds_toArray, List.set_cons_succ, List.set_cons_zero]
                refine stepsL_run (v := ?_) rfl (fun L w' hS hL hw hc => ?_) ?_; rotate_left; (focus (obtain ⟨hxx, hS'⟩ := at4_quiet hS _ hL hc (by decide) (by kernel_rfl); obtain ⟨ea, eb, ec⟩ := hIn _ hxx; unfold Gives; go_simp; exact is_mk hS')); simp only [Act.put, List.setIfInBounds_toArray, List.set_cons_succ, List.set_cons_zero]
                refine stepsL_run (v := ?_) rfl (fun L w' hS hL hw hc => ?_) ?_; rotate_left; (focus (obtain ⟨hxx, hS'⟩ := at4_quiet hS _ hL hc (by decide) (by kernel_rfl); obtain ⟨ea, eb, ec⟩ := hIn _ hxx; unfold Gives; go_simp; exact is_mk hS')); simp only [Act.put, List.setIfInBounds_toArray, List.set_cons_succ, List.set_cons_zero]
                refine stepsL_run (v := ?_) rfl (fun L w' hS hL hw hc => ?_) ?_; rotate_left; (focus (obtain ⟨hxx, hS'⟩ := at4_quiet hS _ hL hc (by decide) (by kernel_rfl); obtain ⟨ea, eb, ec⟩ := hIn _ hxx; unfold Gives; go_simp; exact is_mk hS')); simp only [Act.put, List.setIfInBounds_toArray, List.set_cons_succ, List.set_cons_zero]
                refine stepsL_run (v := ?_) rfl (fun L w' hS hL hw hc => ?_) ?_; rotate_left; (focus (obtain ⟨hxx, hS'⟩ := at4_quiet hS _ hL hc (by decide) (by kernel_rfl); obtain ⟨ea, eb, ec⟩ := hIn _ hxx; unfold Gives; go_simp; exact is_mk hS')); simp only [Act.put, List.setIfInBounds_toArray, List.set_cons_succ, List.set_cons_zero]
                refine stepsL_run (v := ?_) rfl (fun L w' hS hL hw hc => ?_) ?_; rotate_left; (focus (obtain ⟨hxx, hS'⟩ := at4_quiet hS _ hL hc (by decide) (by kernel_rfl); obtain ⟨ea, eb, ec⟩ := hIn _ hxx; unfold Gives; go_simp; exact is_mk hS')); simp only [Act.put, List.setIfInBounds_toArray, List.set_cons_succ, List.set_cons_zero]
                refine stepsL_run (v := ?_) rfl (fun L w' hS hL hw hc => ?_) ?_; rotate_left; (focus (obtain ⟨hxx, hS'⟩ := at4_i hS hL (by decide); subst hxx; unfold Gives; go_simp; exact is_mk hS')); simp only [Act.put, List.setIfInBounds_toArray, List.set_cons_succ, List.set_cons_zero]
                refine stepsL_run (v := ?_) rfl (fun L w' hS hL hw hc => ?_) ?_; rotate_left; (focus (obtain ⟨hxx, hS'⟩ := at4_j hS hL hw (by kernel_rfl) (by decide); subst hxx; refine gives_append rfl rfl rfl hrun ?_; simp only [Nat.reduceAdd]; exact is_mk hS')); simp only [Act.put, List.setIfInBounds_toArray, List.set_cons_succ, List.set_cons_zero]
                refine stepsL_run (v := ?_) rfl (fun L w' hS hL hw hc => ?_) ?_; rotate_left; (focus (obtain ⟨hxx, hS'⟩ := at4_quiet hS _ hL hc (by decide) (by kernel_rfl); obtain ⟨ea, eb, ec⟩ := hIn _ hxx; unfold Gives; go_simp; exact is_mk hS')); simp only [Act.put, List.setIfInBounds_toArray, List.set_cons_succ, List.set_cons_zero]
                refine stepsL_run (v := ?_) rfl (fun L w' hS hL hw hc => ?_) ?_; rotate_left; (focus (obtain ⟨hxx, hS'⟩ := at4_quiet hS _ hL hc (by decide) (by kernel_rfl); obtain ⟨ea, eb, ec⟩ := hIn _ hxx; unfold Gives; go_simp; exact is_mk hS')); simp only [Act.put, List.setIfInBounds_toArray, List.set_cons_succ, List.set_cons_zero]
                refine stepsL_run (v := ?_) rfl (fun L w' hS hL hw hc => ?_) ?_; rotate_left; (focus (obtain ⟨hxx, hS'⟩ := at4_k hS hL hw (by kernel_rfl); subst hxx; unfold Gives; go_simp; exact is_mk hS')); simp only [Act.put]
                refine stepsL_end fun L w' hall hS => ?_
                obtain rfl := at4_end hS hall (by decide)
                clear hS hall
                have hfg : ∀ q, q ≠ g → (Wq.setCell ⟨g, m * 4 + 3, none⟩ (.slice (some ⟨g6, 0, none⟩) (xn.kids.length + 1) cap6)).heap[q]? = Wq.heap[q]? := fun q hq => Below.heap_setCell _ _ _ _ hq
                have hrg : CC CpC Wq g := own_cc hr6 cpNode rfl
                have gne6 : b6 ≠ g := fun e => by rw [← e] at hr6; exact absurd (own_type hr6 rfl q6) (by decide)
                have gnen : bn ≠ g := fun e => by rw [← e] at hr6; exact absurd (own_type hr6 rfl qn) (by decide)
                have hKp1 : Kp CpC Vb (Wq.setCell ⟨g, m * 4 + 3, none⟩ (.slice (some ⟨g6, 0, none⟩) (xn.kids.length + 1) cap6)) := ((KpS.of_ext hEd).trans (KpS.grown hkx cpInt hgrow6)).trans (KpS.setCell _ _ _ hrg)
                have hBl1 : Below base Vb (Wq.setCell ⟨g, m * 4 + 3, none⟩ (.slice (some ⟨g6, 0, none⟩) (xn.kids.length + 1) cap6)) := ((hEd.mono (by have := I6.out.size; omega)).grown hgrow6 (by have := hEd.size; have := I6.out.size; omega) (own_ge hkx)).setCell (p := ⟨g, m * 4 + 3, none⟩) (by simpa using hg1) _
                have r6 : Boxed (Wq.setCell ⟨g, m * 4 + 3, none⟩ (.slice (some ⟨g6, 0, none⟩) (xn.kids.length + 1) cap6)) b6 43 _ := (hfg b6 gne6).trans q6
                have rn : Boxed (Wq.setCell ⟨g, m * 4 + 3, none⟩ (.slice (some ⟨g6, 0, none⟩) (xn.kids.length + 1) cap6)) bn 3 _ := (hfg bn gnen).trans qn
                have h17d : (Vc.drew.alloc (Obj.cells #[.int .i64 (ns'.length : Int)] 3)).heap[b17]? = some (.cells #[.string X, .int .i64 (-1), .int .i64 (-1), .slice none 0 0] 62 (0, 0)) := ((ext_alloc (Fr.ext (Fr.drew (fun _ => False) Vc) (fun _ _ h => h)) _).block b17 (Array.getElem?_eq_some_iff.1 h17).1).trans h17
                have r17 : (Wq.setCell ⟨g, m * 4 + 3, none⟩ (.slice (some ⟨g6, 0, none⟩) (xn.kids.length + 1) cap6)).heap[b17]? = some (.cells #[.string X, .int .i64 (-1), .int .i64 (-1), .slice none 0 0] 62 (0, 0)) :=
                  (hfg b17 (by omega)).trans ((hFq.block b17 (Array.getElem?_eq_some_iff.1 h17d).1 (fun e => absurd (own_type hkx e h17d) (by decide))).trans h17d)
                have happ : ∀ (j : Nat) (kv1 : Value), (kvs'.set m (Value.slice (some ⟨g6, 0, none⟩) (xn.kids.length + 1) cap6))[j]? = some kv1 → kv1.ownBlock ≠ some bn := fun j kv1 hj => by
                  by_cases hjm : j = m
                  · subst hjm
                    rw [List.getElem?_set_self (List.getElem?_eq_some_iff.1 HKV.out).1] at hj
                    cases hj
                    rcases hat6 with e | e
                    · rw [e]; exact knen
                    · rw [e]
                      have := hEd.size
                      have := I4.out.lt
                      simp only [ne_eq, Option.some.injEq]; omega
                  · rw [List.getElem?_set_ne (fun e => hjm e.symm)] at hj
                    exact I5.out j kv1 hj
                obtain ⟨ns7, hns7⟩ : ∃ ns7, (ns'.modify m fun x => { x with kids := x.kids ++ [(ns'.length : Int)] }) = ns7 := ⟨_, rfl⟩
                obtain ⟨kvs7, hkvs7⟩ : ∃ kvs7, kvs'.set m (Value.slice (some ⟨g6, 0, none⟩) (xn.kids.length + 1) cap6) = kvs7 := ⟨_, rfl⟩
                have h7 := H7.out
                rw [hns7, hkvs7] at h7
                rw [hkvs7] at happ
                have hl7 : ns7.length = ns'.length := by rw [← hns7]; simp
                have hgr : growT ns' m X = ns7 ++ [blankN X] := by
                  rw [← hns7]; rfl
                rw [hgr] at HS2
                obtain ⟨Wr, hWr⟩ : ∃ Wr, Wq.setCell ⟨g, m * 4 + 3, none⟩ (.slice (some ⟨g6, 0, none⟩) (xn.kids.length + 1) cap6) = Wr := ⟨_, rfl⟩
                rw [hWr] at h7 r6 rn r17 hKp1 hBl1 ⊢
                have H8 := Lib.hid h7; have R6 := Lib.hid r6; have RN := Lib.hid rn; have HK1 := Lib.hid hKp1; have HB1 := Lib.hid hBl1; have HAP := Lib.hid happ; have HL7 := Lib.hid hl7
                have x6 := r6.cell; have y6 := r6.frozen; have xn' := rn.cell
                have w0 : Wr.cell? ⟨b17, 0, none⟩ = some (.string X) := by simp [World.cell?, r17]
                have w1' : Wr.cell? ⟨b17, 1, none⟩ = some (.int .i64 (-1)) := by simp [World.cell?, r17]
                have w2' : Wr.cell? ⟨b17, 2, none⟩ = some (.int .i64 (-1)) := by simp [World.cell?, r17]
                have w3' : Wr.cell? ⟨b17, 3, none⟩ = some (.slice none 0 0) := by simp [World.cell?, r17]
                clear hWr h7 r6 rn r17 hKp1 hBl1 happ hns7 hkvs7 hl7 hgr H7 h17 h17d hfg hrg gne6 gnen hIn hFq q6 qn hr6 fz6 hz6 c6q hrun HRUN hown6 hgrow6 hat6 hkx hno1 hEd hEc kne6 knen f6 fn c6 cn
                gi_wp2_with (gi_at_builtin; refine wpListIn_append_own _ rfl _ _ 43 rfl base 62 i0 (.agg #[.string ⟨#[]⟩, .int .i64 0, .int .i64 0, .slice none 0 0]) 4 56 Tryz.underlying43 hi0 hz0 hz1' hz2' rfl (by decide) _ ns'.length _ rfl (by have := H8.out.row.alloc (Obj.cells #[.string X, .int .i64 (-1), .int .i64 (-1), .slice none 0 0] 62); rw [HL7.out] at this; exact this) ⟨Wr.heap.size, 0, none⟩ 1 1 [.string X, .int .i64 (-1), .int .i64 (-1), .slice none 0 0] rfl rfl (four_cells_new _ _ _ _ _ _) (by simp [Value.oneCell']) (by unfold maxLen; omega) (by omega) (by have := HB1.out.size; have := I6.out.size; simp; omega) ?_
                             intro v8 w8 hown8 hgrow8 _
                             obtain ⟨g8, cap8, rfl⟩ := own_succ hown8
                             have hEa : Ext Wr (Wr.alloc (Obj.cells #[.string X, .int .i64 (-1), .int .i64 (-1), .slice none 0 0] 62)) := ext_alloc (Below.refl _ _) _
                             have ha8 := H8.out.ext hEa
                             have h8 := ha8.push HLS.out (by rw [HL7.out]; exact hown8) hgrow8
                             have hF8 := Fr.grown hgrow8
                             have hrow8 := ha8.row
                             have p6 : Boxed w8 b6 43 _ := hF8.boxed (ext_boxed hEa R6.out) (fun e => absurd (own_type hrow8 e (ext_boxed hEa R6.out)) (by decide))
                             have pn : Boxed w8 bn 3 _ := hF8.boxed (ext_boxed hEa RN.out) (fun e => absurd (own_type hrow8 e (ext_boxed hEa RN.out)) (by decide))
                             have hk8 : Kp CpC Vb w8 := (HK1.out.trans (KpS.of_ext hEa)).trans (KpS.grown hrow8 cpNode hgrow8)
                             have hb8 : Below base Vb w8 := (HB1.out.trans (hEa.mono (by have := HB1.out.size; have := I6.out.size; omega))).grown hgrow8 (by have := HB1.out.size; have := I6.out.size; have := hEa.size; omega) (own_ge hrow8)
                             have e8 := p6.cell; have f8 := p6.frozen; have en8 := pn.cell; have fn8 := pn.frozen
                             have H9 := Lib.hid h8; have P6 := Lib.hid p6; have PN := Lib.hid pn; have HK8 := Lib.hid hk8; have HB8 := Lib.hid hb8
                             clear hown8 hgrow8 hEa ha8 h8 hF8 hrow8 p6 pn hk8 hb8)
                have hFb : Fr (fun b => b = b6) w8 (w8.setCell ⟨b6, 0, none⟩ (.slice (some ⟨g8, 0, none⟩) (ns'.length + 1) cap8)) := Fr.setCell _ _ _ rfl
                have hFn : Fr (fun b => b = bn) (w8.setCell ⟨b6, 0, none⟩ (.slice (some ⟨g8, 0, none⟩) (ns'.length + 1) cap8)) ((w8.setCell ⟨b6, 0, none⟩ (.slice (some ⟨g8, 0, none⟩) (ns'.length + 1) cap8)).setCell ⟨bn, 0, none⟩ (.int .i64 (ns'.length : Int))) := Fr.setCell _ _ _ rfl
                have pn2 := hFb.boxed PN.out (by omega)
                have hap9 : ∀ (j : Nat) (kv1 : Value), (kvs7 ++ [Value.slice none 0 0])[j]? = some kv1 → kv1.ownBlock ≠ some bn := fun j kv1 hj => by
                  by_cases hjl : j < kvs7.length
                  · rw [List.getElem?_append_left hjl] at hj; exact HAP.out j kv1 hj
                  · rw [List.getElem?_append_right (by omega)] at hj
                    obtain ⟨-, rfl⟩ : (j - kvs7.length = 0 ∧ Value.slice none 0 0 = kv1) := by
                      cases hjj : j - kvs7.length with
                      | zero => rw [hjj] at hj; simp at hj; exact ⟨rfl, hj⟩
                      | succ q => rw [hjj] at hj; simp at hj
                    simp [Value.ownBlock]
                have hKz := (HK8.out.trans (KpS.setCell _ ⟨b6, 0, none⟩ (.slice (some ⟨g8, 0, none⟩) (ns'.length + 1) cap8) (cc_boxed P6.out cpNodes))).trans (KpS.setCell _ ⟨bn, 0, none⟩ (.int .i64 (ns'.length : Int)) (cc_boxed pn2 cpInt))
                refine ⟨hKz, ns7 ++ [blankN X], ns'.length, _, kvs7 ++ [.slice none 0 0], HS2.out, hFn.boxed (P6.out.set _) (by omega), (H9.out.setBox P6.out _).setInt pn2 hap9 _, pn2.set _, hap9, I6.out.trans ((HB8.out.setCell (p := ⟨b6, 0, none⟩) (by simp; omega) _).setCell (p := ⟨bn, 0, none⟩) (by simpa using hbb) _), I7.out.kp hKz⟩
            case rgDone =>
              rintro V ⟨ns', m, v', kvs', i1, i2, i3, i4, i5, i6, i7⟩ hK
              rw [List.take_of_length_le (Nat.le_refl _)] at i1
              obtain ⟨ps0, hps0⟩ := HTR0.out
              obtain ⟨ps', ht', hn'⟩ := down_tree hps0 (labsB O)
              rw [i1] at ht' hn'
              simp only at ht' hn'
              have hnl : m < ns'.length := by rw [← ht'.len]; exact (List.getElem?_eq_some_iff.1 hn').1
              have hlen : ns'.length ≤ 100008 := by
                have := down_len (labsB O) (ns0, 0)
                unfold downT at i1
                rw [i1] at this
                simp only at this; omega
              obtain ⟨g, cap', hv', hg1, hg2, hg3, hg4⟩ := i3.form (by intro e; rw [e] at hnl; simp at hnl)
              subst hv'
              obtain ⟨xn, hxn⟩ := get_some (l := ns') (n := ns'.length) rfl hnl
              obtain ⟨kv, hkv, _⟩ := i3.kv hxn
              obtain ⟨c0, c1, c2, c3⟩ := i3.cells rfl hxn hkv
              have fz1 := i3.row.frozenAt (m * 4 + 1)
              have fz2 := i3.row.frozenAt (m * 4 + 2)
              have hrow := i3.row
              have c6 := i2.cell; have cn := i4.cell
              unfold maxLen at hg4
              have gne6 : b6 ≠ g := fun e => by rw [← e] at hrow; exact absurd (own_type hrow rfl i2) (by decide)
              have hset : ∀ (wide : Bool), NodesOwn (V.setCell ⟨g, m * 4 + (if wide then 2 else 1), none⟩ (.int .i64 (k : Int))) base (.slice (some ⟨g, 0, none⟩) ns'.length cap') (setT ns' m wide k) kvs' := fun wide => i3.set rfl hxn wide k
              have hput : starB p.data.toList = true → putT ns0 p k = setT ns' m true k := fun h => by unfold putT; rw [← HLP.out, i1, h]
              have hput2 : starB p.data.toList = false → putT ns0 p k = setT ns' m false k := fun h => by unfold putT; rw [← HLP.out, i1, h]
              have hkp : ∀ (q : Nat) (u : Value), Kp CpC V (V.setCell ⟨g, q, none⟩ u) := fun q u => KpS.setCell _ _ _ (own_cc hrow cpNode rfl)
              have hfin : ∀ (q : Nat) (u : Value) (ns2 : List Nod), putT ns0 p k = ns2 → NodesOwn (V.setCell ⟨g, q, none⟩ u) base (.slice (some ⟨g, 0, none⟩) ns'.length cap') ns2 kvs' → CpI W2 base b6 (putAll (treeTo l k) (r.pats.take (j + 1)) k) ({ target := .collected V0.heap.size, args := #[] } :: ds2) (V.setCell ⟨g, q, none⟩ u) := fun q u ns2 hp2 hn2 => by
                refine ⟨_, kvs', (Below.heap_setCell _ _ _ _ gne6).trans i2, by rw [HP.out, hns0, hp2]; exact hn2, by rw [HP.out, hns0]; exact put_tree HTR0.out _ _, i6.setCell (by simpa using hg1) _, V0.heap.size, rfl, ?_, by omega, (hkp q u).obj hK (fun _ _ _ e => by cases e) (fun h => h), (i7.kp (hkp q u)).le (by omega)⟩
                have := (Array.getElem?_eq_some_iff.1 hK).1
                simpa [World.setCell] using this
              have hlen2 : (putAll (treeTo l k) (r.pats.take (j + 1)) k).length ≤ 1 + 64 * k + 8 * (j + 1) := by
                rw [HP.out]
                have := put_len (ns := putAll (treeTo l k) (r.pats.take j) k) HV.out (k : Int)
                omega
              have HSET := Lib.hid hset; have HPUT := Lib.hid hput; have HPUT2 := Lib.hid hput2; have HFIN := Lib.hid hfin; have HLEN2 := Lib.hid hlen2
              clear hset hput hput2 hkp hfin hlen2 i1 i2 i3 i4 i5 i6 i7 hK ht' hn' hps0 hxn hkv hrow c0 c3
              cases hst : starB p.data.toList
              · have HST := Lib.hid hst
                clear hst
                gi_wp2
                refine ⟨⟨rfl, rfl, rfl, rfl, rfl, rfl, rfl, rfl, rfl, rfl, rfl, j + 1, by omega, by first | rfl | go_num, HFIN.out _ _ _ (HPUT2.out HST.out) (HSET.out false), HLEN2.out⟩, ?_⟩
                simp [intOf]; omega
              · have HST := Lib.hid hst
                clear hst
                gi_wp2
                refine ⟨⟨rfl, rfl, rfl, rfl, rfl, rfl, rfl, rfl, rfl, rfl, rfl, j + 1, by omega, by first | rfl | go_num, HFIN.out _ _ _ (HPUT.out HST.out) (HSET.out true), HLEN2.out⟩, ?_⟩
                simp [intOf]; omega
          · obtain rfl : j = np := by omega
            have HP := Lib.hid (show putAll (treeTo l k) (r.pats.take j) k = treeTo l (k + 1) by rw [treeTo_succ HRR.out, List.take_of_length_le (by rw [NP.out]; exact Nat.le_refl _)])
            have hCC : CpI W2 base b6 (treeTo l (k + 1)) ds2 wr2 := by rw [← HP.out]; exact ⟨v, kvs, HB6.out, HNO.out, HTR.out, HBL.out, HMK.out⟩
            have hL1 : (treeTo l (k + 1)).length ≤ 1 + 64 * (k + 1) := by rw [← HP.out]; omega
            have HCC := Lib.hid hCC; have HL1 := Lib.hid hL1
            clear hCC hL1
            gi_wp2
            refine ⟨⟨rfl, rfl, rfl, rfl, rfl, rfl, rfl, k + 1, by omega, by first | rfl | go_num, HCC.out, HL1.out⟩, ?_⟩
            simp [intOf]; omega
      · obtain rfl : k = n := by omega
        obtain ⟨v, kvs, hb6, hno, htr, hbl, hmk⟩ := HCI.out
        have hT : treeTo l k = compN l := by rw [HC.out.2]; unfold treeOf; rw [HN.out]
        obtain ⟨xs, g1, g2, g3, g4, g5⟩ := rules_xs HN.out HL.out
        have hbt : TabB wr w.heap.size (.slice none 0 0) (.slice none 0 0) := (hbl.block w.heap.size (by omega)).trans HBT.out
        have G1 := Lib.hid g1; have G3 := Lib.hid g3; have G4 := Lib.hid g4; have G5 := Lib.hid g5
        have hdr : Ext wr wr.drew := (Fr.drew (fun _ => False) _).ext (fun _ _ h => h)
        have G2 : Hid (∀ p, a = some p → ∀ (j : Nat) (u : Value), xs[j]? = some u → wr.drew.cell? (p.add j) = some u) := Lib.hid fun p hp j u hu => ((ext_trans HXW.out hdr).cell (cell_lt (g2 p hp j u hu))).trans (g2 p hp j u hu)
        have x6 := hb6.cell
        have HT := Lib.hid hT; have HNO := Lib.hid hno; have HBL := Lib.hid hbl; have HMK := Lib.hid hmk; have HB := Lib.hid hbt; have H6 := Lib.hid hb6; have HDR := Lib.hid hdr
        have hwz : w.heap.size < wr.heap.size := hbt.lt
        clear hT g1 g2 g3 g4 g5 hb6 hno htr hbl hmk hbt hdr
        obtain ⟨na, nc, hv, hnc1, hnc2, hnods⟩ := HNO.out.nods
        subst hv
        clear hnods
        gi_wp2
        refine wpIn_mono (Q := fun e a' w' => match e with
          | .normal => a'.tmps.size = 97 ∧ a'.tmps.getD 2 undef = .pointer (some ⟨w.heap.size, 0, none⟩) ∧ a'.tmps.getD 3 undef = .int .i64 0 ∧ a'.defers = ds ∧ ∃ (w3 : World) (a3 : Option Addr) (c3 : Nat), Ext wr w3 ∧ w3.ownsRow wr.heap.size 54 7 (.slice a3 k c3) k xs ∧ w' = (w3.setCell ⟨w.heap.size, 0, none⟩ (.slice a3 k c3)).setCell ⟨w.heap.size, 1, none⟩ (.slice na (treeTo l k).length nc)
          | _ => False) ?rgn ?rest
        case rgn =>
          gi_region_with (gi_at_call 58
                          refine (callsIn_wide.2 (CloneR_any xs a cap k wr.drew HCM.out G1.out G2.out G3.out G4.out (by omega))).mono ?_
                          rintro e w3 ⟨v3, rfl, hown3, hE3⟩
                          obtain ⟨a3, c3, rfl⟩ := own_slice hown3
                          have hE4 := ext_trans HDR.out hE3
                          have y6 := ext_boxed hE4 H6.out
                          have yb := HB.out.ext hE4
                          have z6 := y6.cell
                          obtain ⟨q0, q1⟩ := yb.cells
                          have fz0 := yb.frozen 0
                          have fz1 := yb.frozen 1
                          have HO3 := Lib.hid hown3; have HE4 := Lib.hid hE4; have YB := Lib.hid yb
                          clear hown3 hE3 hE4 y6 yb)
          all_goals exact ⟨rfl, rfl, rfl, rfl, w3, a3, c3, HE4.out, HO3.out, rfl⟩
        case rest =>
          intro e a' w' h
          cases e with
          | exit id => exact h.elim
          | goto t => exact h.elim
          | ret => exact h.elim
          | panic ch => exact h.elim
          | outgrown => exact h.elim
          | normal =>
            obtain ⟨A, ds'⟩ := a'
            obtain ⟨hsz, h2, h3, hd, w3, a3, c3, hE, hown, rfl⟩ := h
            obtain ⟨t', ht', rfl⟩ := arr97 A hsz
            have hd' : ds' = ds := hd
            subst hd'
            have e2 : t' 2 = .pointer (some ⟨w.heap.size, 0, none⟩) := h2
            have e3 : t' 3 = .int .i64 0 := h3
            rw [e2, e3]
            obtain ⟨W4, hW4⟩ : ∃ W4, (w3.setCell ⟨w.heap.size, 0, none⟩ (.slice a3 k c3)).setCell ⟨w.heap.size, 1, none⟩ (.slice na (treeTo l k).length nc) = W4 := ⟨_, rfl⟩
            have hb4 : TabB W4 w.heap.size (.slice a3 k c3) (.slice na (treeTo l k).length nc) := by rw [← hW4]; exact ((HB.out.ext hE).set0 _).set1 _
            have hx4 : Ext w W4 := by rw [← hW4]; exact ((ext_trans HXW.out hE).setCell (p := ⟨w.heap.size, 0, none⟩) (Nat.le_refl _) _).setCell (p := ⟨w.heap.size, 1, none⟩) (Nat.le_refl _) _
            have hF4 : Fr (fun b => b = w.heap.size) w3 W4 := by rw [← hW4]; exact (Fr.setCell (S := fun b => b = w.heap.size) _ _ _ rfl).trans (Fr.setCell _ _ _ rfl)
            have hn4 : NodesOwn W4 base (.slice na (treeTo l k).length nc) (treeTo l k) kvs := (HNO.out.ext hE).fr hF4 fun g hg _ e => by omega
            have ho4 : W4.ownsRow wr.heap.size 54 7 (.slice a3 k c3) k xs := own_fr hown hF4 fun g hg e => by have := own_ge hown g hg; omega
            have hm4 : Marks base W4 wr.heap.size ds' := (HMK.out.ext hE).of_eq fun q _ hq => (hF4.block q (Array.getElem?_eq_some_iff.1 hq).1 (fun e => by
              subst e
              have ht := HB.out.ext hE
              unfold TabB at ht
              rw [ht] at hq
              cases hq)).trans hq
            rw [hW4]
            clear ht' h2 h3 e2 e3 hsz hW4 hown hF4 hE
            have HB4 := Lib.hid hb4; have HX4 := Lib.hid hx4; have HN4 := Lib.hid hn4; have HO4 := Lib.hid ho4; have HM4 := Lib.hid hm4
            clear hb4 hx4 hn4 ho4 hm4
            gi_wp2
            refine leave_marks (n0 := base) (v := .tuple #[.agg #[.slice a3 k c3, .slice na (treeTo l k).length nc], .int .i64 0]) ds' wr.heap.size W4 HM4.out fun W' s1 s2 s3 s4 s5 s6 => ?_
            have hb' : TabB W' w.heap.size (.slice a3 k c3) (.slice na (treeTo l k).length nc) := s6 _ _ _ _ HB4.out
            obtain ⟨q0, q1⟩ := hb'.cells
            have hx' : Ext w W' := ⟨s2.trans HX4.out.os, s3.trans HX4.out.tape, s4.trans HX4.out.output, by rw [s1]; exact HX4.out.size, fun i hi => (s5 i (by omega)).trans (HX4.out.block i hi)⟩
            refine ⟨by simp [results, Tryz.results25, go_sem, q0, q1], ?_⟩
            rw [HX.out, H0.out, HC.out.1, ← HT.out]
            refine ⟨_, _, rfl, G5.out W' _ _ hx' (own_keep HO4.out (own_cells HO4.out s6)), ?_, hx'⟩
            have hn' : NodesOwn W' base (.slice na (treeTo l k).length nc) (treeTo l k) kvs := HN4.out.keep (own_cells HN4.out.row s6) fun j kv g hk hg => by
              obtain ⟨y, hy⟩ := HN4.out.get hk
              exact own_cells (HN4.out.kids j y kv hy hk) s6 g hg
            exact hn'.nods
  · have t0 : (x != 0) = true := by simpa using h0
    have HC := Lib.hid (show compR l = [] ∧ compN l = [] from ⟨by unfold compR; rw [if_neg (by rw [HX.out]; exact h0)], by unfold compN; rw [if_neg (by rw [HX.out]; exact h0)]⟩)
    clear h0
    gi_wp2_with (first
      | (gi_at_call 39; refine (callsIn_wide.2 (right_any l a cap n _ HN.out HNC.out HCM.out (HL.out.ext HE0.out) HFE.out HPF.out)).mono ?_; rintro e w1 ⟨rfl, hE1⟩; rw [HX.out]
         have hb := B0.out.ext hE1
         obtain ⟨q0, q1⟩ := hb.cells
         have fz0 := hb.frozen 0
         have fz1 := hb.frozen 1
         have HB := Lib.hid hb
         have HE1 := Lib.hid hE1; clear hE1 hb))
    obtain ⟨W4, hW4⟩ : ∃ W4, (w1.setCell ⟨w.heap.size, 0, none⟩ (.slice none 0 0)).setCell ⟨w.heap.size, 1, none⟩ (.slice none 0 0) = W4 := ⟨_, rfl⟩
    have hb4 : TabB W4 w.heap.size (.slice none 0 0) (.slice none 0 0) := by rw [← hW4]; exact (HB.out.set0 _).set1 _
    have hx4 : Ext w W4 := by rw [← hW4]; exact ((ext_trans HE0.out HE1.out).setCell (p := ⟨w.heap.size, 0, none⟩) (Nat.le_refl _) _).setCell (p := ⟨w.heap.size, 1, none⟩) (Nat.le_refl _) _
    obtain ⟨q0, q1⟩ := hb4.cells
    rw [hW4]
    refine ⟨.tuple #[.agg #[.slice none 0 0, .slice none 0 0], .int .i64 x], by simp [results, Tryz.results25, go_sem, q0, q1], ?_⟩
    rw [HX.out, HC.out.1, HC.out.2]
    exact retTab_none hx4
end Go.Proofs.YtmdmbdbbpdojnaaGreatDoor
