/- Walks of the program's functions on policies: Clash. -/
import Derived.Test.YtmdmbdbbpdojnaaGreatDoorM16
namespace Go.Proofs.YtmdmbdbbpdojnaaGreatDoor
open Go.RowKit Nam Pol Go.Maps
attribute [local go_sem] gv_of

def NatAt : ElR Nat := fun w b o n => w.cell? ⟨b, o, none⟩ = some (.int .i64 (n : Int))
theorem nat_slv {w : World} {base : Nat} {e : TypeId} {v : Value} {n : Nat} {l : List Nat} (hn : l.length = n) (h : w.ownsRow base e 1 v n (l.map natV)) : SlV 1 NatAt w v l := by
  have e1 : l.flatMap (fun i => [natV i]) = l.map natV := by
    clear h hn
    induction l with
    | nil => rfl
    | cons x l ih => rw [List.flatMap_cons, List.map_cons, ih]; rfl
  rw [← e1] at h
  exact own_slv (cells := fun i => [natV i]) (fun _ => rfl) (fun b o x _ hc => hc 0 _ rfl) hn h
set_option maxRecDepth 100000 in
set_option maxHeartbeats 8000000 in
theorem pClash_any (l : List Rul) (a : Option Addr) (cap n : Nat) (w : World) (hn : l.length = n) (hnc : n ≤ cap) (hcm : cap ≤ maxLen) (hl : Ruls w a l) (hfew : n ≤ 1000) (hpf : ∀ r ∈ l, r.pats.length ≤ 1000) :
    Calls Tryz.prog 18 #[.slice a n cap] w (RetL 2 PairAt (clashL l) w) := by
  obtain ⟨i0, hi, hz0, hz1, hz2⟩ := info_parts Tryz.infoPair
  obtain ⟨i1, gi, gz0, gz1, gz2⟩ := info_parts Tryz.infoInt
  have HN := Lib.hid hn; have HL := Lib.hid hl; have HPF := Lib.hid hpf
  unfold maxLen at hcm
  clear hn hl hpf
  have E : KEnc Tryz.prog 9 Value.string (fun s : ByteArray => s.size ≤ maxLen) := strKEnc Tryz.underlying9
  have EP := pairKEnc
  have hmm := @run_makeMap Tryz.prog
  go_enter Tryz.func18, Tryz.ntmps18
  go_wp2_with fail
  have HS0 := Lib.hid (ClashSt.start w)
  generalize (w.alloc (Obj.map #[] 0)).alloc (Obj.map #[] 0) = W0 at HS0 ⊢
  clear hmm
  go_loopw [17, 5] (fun i ov wr => ∃ (k : Nat) (mb : List (ByteArray × Value)) (f : ByteArray → List Nat) (o : List (Nat × Nat)), k ≤ n ∧ i = .int .i64 k ∧ FInv l k [] f ∧ OInv l k [] o ∧ o.Nodup ∧ (∀ s, (f s).length ≤ k * 1000) ∧ ClashSt w wr mb f o o ov) (fun i _ _ => n - (intOf i).toNat)
  case atStart => exact ⟨0, [], fun _ => [], [], Nat.zero_le _, rfl, FInv.start l, OInv.start l, List.Pairwise.nil, fun _ => Nat.zero_le _, HS0.out⟩
  case round =>
    obtain ⟨k, mb, f, o, hk, rfl, hf, ho, hnd, hfl, hst⟩ := hrel
    have HF := Lib.hid hf; have HO := Lib.hid ho; have HND := Lib.hid hnd; have HFL := Lib.hid hfl; have HST := Lib.hid hst
    clear hf ho hnd hfl hst
    by_cases hlt : k < n
    · obtain ⟨r, hr⟩ := get_some HN.out hlt
      obtain ⟨b, off, rfl, d0, d1, ⟨pa, pc, d2, l1, l2, hps⟩, d3, d4, d5, d6, _, _⟩ := (HL.out.ext HST.out.ext) k r hr
      have HR := Lib.hid hr
      have HPS : Hid (Strs w pa r.pats) := Lib.hid (by
        obtain ⟨b', off', hab, _, _, ⟨pa', pc', g2, _, _, hps'⟩, _⟩ := HL.out k r hr
        cases hab
        have := ext_cell g2 HST.out.ext
        rw [this] at d2; cases d2
        exact hps')
      have hnp1 := HPF.out r (List.mem_of_getElem? hr)
      obtain ⟨np, hnp⟩ : ∃ m, r.pats.length = m := ⟨_, rfl⟩
      have NP := Lib.hid hnp
      rw [hnp] at d2 l1 hnp1
      unfold maxLen at l2
      have hkc : k ≤ cap := by omega
      clear hr hps hnp
      go_wp2_with fail
      have HS1 := Lib.hid (HST.out.ext' (ext_alloc (Below.refl _ _) (Obj.cells #[.string r.name, .bool r.allow, .slice pa np pc, .int .u64 r.keyMin, .int .i64 r.lifeMax, .int .i64 r.most, .int .i64 r.window] 54)))
      generalize (wr.alloc (Obj.cells #[.string r.name, .bool r.allow, .slice pa np pc, .int .u64 r.keyMin, .int .i64 r.lifeMax, .int .i64 r.most, .int .i64 r.window] 54)) = W1 at HS1 ⊢
      clear d0 d1 d2 d3 d4 d5 d6
      go_loopw [25, 5] (fun i ov wr => ∃ (j : Nat) (mb : List (ByteArray × Value)) (f : ByteArray → List Nat) (o : List (Nat × Nat)), j ≤ np ∧ i = .int .i64 j ∧ FInv l k (r.pats.take j) f ∧ OInv l k (r.pats.take j) o ∧ o.Nodup ∧ (∀ s, (f s).length ≤ k * 1000 + j) ∧ ClashSt w wr mb f o o ov) (fun i _ _ => np - (intOf i).toNat)
      case atStart => exact ⟨0, mb, f, o, Nat.zero_le _, rfl, HF.out, HO.out, HND.out, HFL.out, HS1.out⟩
      case round =>
        obtain ⟨j, mb, f, o, hj, rfl, hf, ho, hnd, hfl, hst⟩ := hrel
        have HF := Lib.hid hf; have HO := Lib.hid ho; have HND := Lib.hid hnd; have HFL := Lib.hid hfl; have HST := Lib.hid hst
        clear hf ho hnd hfl hst
        by_cases hlj : j < np
        · obtain ⟨p, hp⟩ := get_some NP.out hlj
          obtain ⟨b', off', rfl, e0, hpz⟩ := (HPS.out.ext HST.out.ext) j p hp
          rw [Nat.mul_one] at e0
          have HP := Lib.hid (take_snoc hp)
          have HPZ := Lib.hid hpz
          have hjc : j ≤ pc := by omega
          obtain ⟨nx, hnx⟩ : ∃ m, (f p).length = m := ⟨_, rfl⟩
          have NX := Lib.hid hnx
          have hnxl : nx ≤ 1001000 := by have := HFL.out p; omega
          obtain ⟨va, vc, hve, hvl, hvm, _⟩ := nat_slv rfl (HST.out.rows.at p)
          rw [hnx] at hve hvl
          have HVE := Lib.hid hve
          have elk := (HST.out.by'.run_lookup (mt := 72) E Tryz.underlying72 (z := .slice none 0 0) (by kernel_rfl) (k := p) HPZ.out).trans (congrArg (fun v => Result.ok v _) hve)
          unfold maxLen at hvm
          clear hp hpz hnx hve
          go_wp2_with fail
          clear elk
          go_loopw [33, 5] (fun i ov wr => ∃ (m : Nat) (o : List (Nat × Nat)), m ≤ nx ∧ i = .int .i64 m ∧ MInv l k (r.pats.take j) (f p) m o ∧ o.Nodup ∧ ClashSt w wr mb f o o ov) (fun i _ _ => nx - (intOf i).toNat)
          case atStart => exact ⟨0, o, Nat.zero_le _, rfl, HO.out.open _, HND.out, HST.out⟩
          case round =>
            obtain ⟨m, o, hm, rfl, hmi, hnd, hst⟩ := hrel
            have HMI := Lib.hid hmi; have HND := Lib.hid hnd; have HST := Lib.hid hst
            clear hmi hnd hst
            by_cases hlm : m < nx
            · obtain ⟨x, hx⟩ := get_some NX.out hlm
              obtain ⟨va', vc', hve', _, _, hvr⟩ := nat_slv rfl (HST.out.rows.at p)
              rw [HVE.out] at hve'
              cases hve'
              obtain ⟨b2, off2, rfl, c0⟩ := hvr m x hx
              unfold NatAt at c0
              rw [Nat.mul_one] at c0
              have hxk : x ≤ k := by
                rcases (HF.out p x).1 (List.mem_of_getElem? hx) with ⟨h, _⟩ | ⟨h, _⟩ <;> omega
              have HX := Lib.hid hx
              have hmc : m ≤ vc := by omega
              clear hx hvr
              go_upto_region 14 with (fail)
              obtain ⟨W3, hW3⟩ : ∃ W3, wr.alloc (Obj.cells #[.int .i64 (x : Int), .int .i64 (k : Int)] 38) = W3 := ⟨_, rfl⟩
              have f0 : W3.cell? ⟨wr.heap.size, 0, none⟩ = some (.int .i64 (x : Int)) := by rw [← hW3]; simp [go_sem]
              have f1 : W3.cell? ⟨wr.heap.size, 1, none⟩ = some (.int .i64 (k : Int)) := by rw [← hW3]; simp [go_sem]
              have hE3 : Ext wr W3 := by rw [← hW3]; exact ext_alloc (Below.refl _ _) _
              have HS3 := Lib.hid (HST.out.ext' hE3)
              have hB2 : w.heap.size + 1 < wr.heap.size := by obtain ⟨mm, h1, _⟩ := HST.out.met; exact h1.lt
              rw [hW3]
              clear hW3 hE3 c0
              obtain ⟨mm, hpm, hseen⟩ := HS3.out.met
              have HPO := Lib.hid (show pairOk (x, k) from ⟨by show x < _; omega, by show k < _; omega⟩)
              have elk := (hpm.run_lookup (mt := 73) EP Tryz.underlying73 (z := .bool false) (by kernel_rfl) (k := (x, k)) HPO.out).trans (congrArg (fun v => Result.ok v _) (hseen (x, k)))
              have HPM := Lib.hid hpm; have HSEEN := Lib.hid hseen
              unfold pairKV at elk
              simp only at elk
              clear hpm hseen
              refine wp_region_P (fun w' => w' = W3) rfl ?_
              repeat
                first
                | (refine steps_and rfl rfl rfl rfl ?_; simp only [Act.put, List.setIfInBounds_toArray, List.set_cons_succ, List.set_cons_zero])
                | (refine steps_or rfl rfl rfl rfl ?_; simp only [Act.put, List.setIfInBounds_toArray, List.set_cons_succ, List.set_cons_zero])
                | (refine steps_skip rfl ?_; simp only [Act.put, List.setIfInBounds_toArray, List.set_cons_succ, List.set_cons_zero])
                | (refine steps_guard_and rfl rfl rfl rfl rfl ?_; simp only [Act.put, List.setIfInBounds_toArray, List.set_cons_succ, List.set_cons_zero])
                | (refine steps_guard (v := ?_) rfl rfl (fun hb w' hS => ?_) ?_; rotate_left; (focus (subst hS; unfold Gives; go_simp; first | exact is_mk rfl)); simp only [Act.put, List.setIfInBounds_toArray, List.set_cons_succ, List.set_cons_zero])
                | (refine steps_guard2 (v := ?_) rfl rfl rfl (fun hb1 hb w' hS => ?_) ?_; rotate_left; (focus (subst hS; unfold Gives; go_simp; first | exact is_mk rfl)); simp only [Act.put, List.setIfInBounds_toArray, List.set_cons_succ, List.set_cons_zero])
                | (refine steps_run (v := ?_) rfl (fun w' hS => ?_) ?_; rotate_left; (focus (subst hS; unfold Gives; go_simp; first | exact is_mk rfl)); simp only [Act.put, List.setIfInBounds_toArray, List.set_cons_succ, List.set_cons_zero])
              refine steps_end fun w' hE' => ?_
              subst hE'
              cases hq : (((x : Int) != (k : Int)) && !(decide ((x, k) ∈ o)))
              · have HQ := Lib.hid (show x = k ∨ (x, k) ∈ o by
                  simp only [Bool.and_eq_false_iff, bne_eq_false_iff_eq, Bool.not_eq_false', decide_eq_true_eq] at hq
                  rcases hq with h | h
                  · exact .inl (by omega)
                  · exact .inr h)
                clear hq elk
                go_wp2_with fail
                go_roundw
                case rel => exact ⟨m + 1, o, by omega, by go_num, HMI.out.skip HX.out HQ.out, HND.out, HS3.out⟩
                case measure => simp [intOf]; omega
              · have HQ := Lib.hid (show x ≠ k ∧ (x, k) ∉ o by
                  simp only [Bool.and_eq_true, bne_iff_ne, ne_eq, Bool.not_eq_true', decide_eq_false_iff_not] at hq
                  exact ⟨fun e => hq.1 (by omega), hq.2⟩)
                clear hq elk
                have hol : o.length ≤ 1002001 := by
                  refine Nat.le_trans (pairs_le (n := 1001) HND.out fun q hq => ?_) (by decide)
                  rcases (HMI.out q).1 hq with ⟨h1, ⟨h2, _⟩ | ⟨h2, _⟩⟩ | ⟨h1, h2, h3⟩
                  · exact ⟨by omega, by omega⟩
                  · exact ⟨by omega, by omega⟩
                  · have : q.1 ∈ f p := List.mem_of_mem_take h3
                    rcases (HF.out p q.1).1 this with ⟨h, _⟩ | ⟨h, _⟩ <;> exact ⟨by omega, by omega⟩
                go_wp2_with (first
                  | (at_mapUpdate; refine wpList_mapUpdate_is rfl _ _ _ 73 rfl EP Tryz.underlying73 rfl HPM.out (x, k) _ rfl rfl HPO.out ?_
                     intro w4 hm4 hf4 hz4
                     have g0 := (hf4.cell (p := ⟨wr.heap.size, 0, none⟩) (cell_lt f0) (show ¬ wr.heap.size = w.heap.size + 1 by omega)).trans f0
                     have g1 := (hf4.cell (p := ⟨wr.heap.size, 1, none⟩) (cell_lt f1) (show ¬ wr.heap.size = w.heap.size + 1 by omega)).trans f1
                     have HS4 := Lib.hid (HS3.out.meet HSEEN.out hm4 hf4 (by obtain ⟨es, clock, hb, _⟩ := HPM.out.heap; exact ⟨es, clock, hb⟩))
                     have hsz4 := HS4.out.ext.size
                     clear hm4 hf4 hz4 f0 f1)
                  | (at_builtin; refine wpList_append_own _ rfl _ _ 36 rfl w.heap.size 38 i0 (.agg #[.int .i64 0, .int .i64 0]) 2 16 Tryz.underlying36 hi hz0 hz1 hz2 rfl (by decide) u5 _ _ rfl (HS4.out.out.alloc _) ⟨w4.heap.size, 0, none⟩ 1 1 [.int .i64 x, .int .i64 k] rfl rfl (two_cells_new _ _ _ _) (by simp [Value.oneCell']) (by unfold maxLen; omega) (by omega) (by simp; omega) ?_
                     intro v' w5 hown5 hgrow5 _
                     have HS5 := Lib.hid ((HS4.out.ext' (ext_alloc (Below.refl _ _) _)).push (q := (x, k)) hown5 hgrow5)
                     clear hown5 hgrow5))
                go_roundw
                case rel => exact ⟨m + 1, o ++ [(x, k)], by omega, by go_num, HMI.out.add HX.out HQ.out.1, List.nodup_append.2 ⟨HND.out, by simp, fun a ha b hb e => by rw [List.mem_singleton] at hb; subst hb; subst e; exact HQ.out.2 ha⟩, HS5.out⟩
                case measure => simp [intOf]; omega
            · obtain rfl : m = nx := by omega
              have HC := Lib.hid (show OInv l k (r.pats.take (j + 1)) o by rw [HP.out]; exact MInv.close HF.out (by rw [NX.out]; exact HMI.out))
              have HF' := Lib.hid (show FInv l k (r.pats.take (j + 1)) (fun s => if p = s then f p ++ [k] else f s) by rw [HP.out]; exact HF.out.next p)
              have HFL' := Lib.hid (show ∀ s, (if p = s then f p ++ [k] else f s).length ≤ k * 1000 + (j + 1) from fun s => by
                have h1 := HFL.out p; have h2 := HFL.out s
                split
                · rw [List.length_append]; simp only [List.length_singleton]; omega
                · omega)
              have elk := (HST.out.by'.run_lookup (mt := 72) E Tryz.underlying72 (z := .slice none 0 0) (by kernel_rfl) (k := p) HPZ.out).trans (congrArg (fun v => Result.ok v _) HVE.out)
              have HROW : Hid (wr.ownsRow w.heap.size 3 1 (.slice va m vc) m ((f p).map natV)) := Lib.hid (by
                have := HST.out.rows.at p
                rw [NX.out] at this
                have e := HVE.out
                unfold atB at this
                unfold atB at e
                rw [e] at this
                exact this)
              have hsz := HST.out.ext.size
              go_wp2_with (first
                | (at_builtin; refine wpList_append_own_at _ rfl _ _ 30 rfl w.heap.size 3 i1 (.int .i64 0) 1 8 Tryz.underlying30 gi gz0 gz1 gz2 rfl (by decide) _ _ _ rfl (HROW.out.alloc _) ⟨wr.heap.size, 0, none⟩ 1 1 [.int .i64 k] rfl rfl (one_cell_new _ _ _) (by simp [Value.oneCell']) (by unfold maxLen; omega) (by omega) (by simp; omega) ?_
                   intro v' w5 hown5 hgrow5 _ hat5
                   have HS4 := Lib.hid (HST.out.ext' (ext_alloc (Below.refl _ _) (Obj.cells #[.int .i64 (k : Int)] 3)))
                   have HO5 := Lib.hid hown5; have HG5 := Lib.hid hgrow5; have HA5 := Lib.hid hat5
                   have HM5 := Lib.hid (HS4.out.by_grown (s := p) (by rw [HVE.out]; exact hgrow5))
                   clear hown5 hgrow5 hat5)
                | (at_mapUpdate; refine wpList_mapUpdate_is rfl _ _ _ 72 rfl E Tryz.underlying72 rfl HM5.out p _ rfl rfl HPZ.out ?_
                   intro w6 hm6 hf6 hz6
                   have HM6 := Lib.hid hm6; have HF6 := Lib.hid hf6
                   clear hm6 hf6 hz6))
              go_roundw
              case rel =>
                refine ⟨j + 1, _, _, o, by omega, by go_num, HF'.out, HC.out, HND.out, HFL'.out, HS4.out.book (by rw [NX.out]; exact HO5.out) (by rw [HVE.out]; exact HG5.out) (by rw [HVE.out]; exact HA5.out) HM6.out HF6.out⟩
              case measure => simp [intOf]; omega
        · obtain rfl : j = np := by omega
          have HC := Lib.hid (show OInv l (k + 1) [] o from OInv.close HR.out (by have := HO.out; rwa [List.take_of_length_le (by rw [NP.out]; exact Nat.le_refl _)] at this))
          have HC' := Lib.hid (show FInv l (k + 1) [] f from FInv.close HR.out (by have := HF.out; rwa [List.take_of_length_le (by rw [NP.out]; exact Nat.le_refl _)] at this))
          go_wp2_with fail
          go_roundw
          case rel => exact ⟨k + 1, mb, f, o, by omega, by go_num, HC'.out, HC.out, HND.out, fun s => by have := HFL.out s; omega, HST.out⟩
          case measure => simp [intOf]; omega
    · obtain rfl : k = n := by omega
      have HOA := Lib.hid (OInv.all (by rw [HN.out]; exact HO.out))
      have hol : o.length ≤ 1000000 := by
        refine Nat.le_trans (pairs_le (n := 1000) HND.out fun q hq => ?_) (by decide)
        obtain ⟨h1, h2⟩ := (HOA.out q).1 hq
        obtain ⟨_, y, _, _, g2, _⟩ := bothAt_iff.1 h2
        have := (List.getElem?_eq_some_iff.1 g2).1
        have := HN.out
        exact ⟨by omega, by omega⟩
      go_wp2_with (go_at_call 46; refine (sortPairs_any o _ _ _ _ rfl (by omega) HST.out.out).mono ?_; rintro e w6 ⟨rfl, o', hperm, hsort, hsl, hF6⟩; have HP6 := Lib.hid hperm; have HSO := Lib.hid hsort; have HSL := Lib.hid hsl; have HF6 := Lib.hid hF6; clear hperm hsort hsl hF6)
      go_ret
      have hnd' : o'.Nodup := HP6.out.nodup_iff.2 HND.out
      have heq : o' = clashL l := by
        refine clash_of_sorted ?_ fun q => by rw [HP6.out.mem_iff]; exact HOA.out q
        have h1 : o'.Pairwise fun a b => a ≠ b := hnd'
        refine (HSO.out.and h1).imp fun {a b} ⟨h2, h3⟩ => ?_
        rcases lexlt_total h3 with h | h
        · exact h
        · exact absurd h h2
      refine ⟨_, rfl, by rw [← heq]; exact HSL.out, HST.out.ext.trans (HF6.out.below HST.out.ext.size fun g hg => own_ge HST.out.out g hg)⟩
end Go.Proofs.YtmdmbdbbpdojnaaGreatDoor
