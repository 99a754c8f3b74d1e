/- Walks: slices.IndexFunc, DeleteFunc, Clone at texts. Nodes as they lie in memory; walks of the document's functions on them: SameNodes. Walks of the document's functions on nodes: kid. Walks of the document's functions on policies: Clash. -/
import Derived.Test.YtmdmbdbbpdojnaaGreatDoorM14
import Derived.Laws.IdiomCopy
import Derived.Lib.SliceRun
import Derived.Test.YtmdmbdbbpdojnaaGreatDoorM12
import Derived.Test.YtmdmbdbbpdojnaaGreatDoorM13
namespace Go.Proofs.YtmdmbdbbpdojnaaGreatDoor
open Go.RowKit Nam Pol
attribute [local go_sem] gv_of

/-- The place of the first element that meets p; -1: none does. -/
def findI {α : Type} (p : α → Bool) (l : List α) : Int := match l.findIdx? p with
  | some i => (i : Int)
  | none => -1
theorem findI_none {α : Type} {p : α → Bool} {l : List α} (h : ∀ s ∈ l, p s = false) : findI p l = -1 := by
  have : l.findIdx? p = none := List.findIdx?_eq_none_iff.2 h
  unfold findI; rw [this]
theorem findI_some {α : Type} {p : α → Bool} {l : List α} {k : Nat} {x : α} (hx : l[k]? = some x) (hp : p x = true) (h : ∀ s ∈ l.take k, p s = false) : findI p l = k := by
  have : l.findIdx? p = some k := by
    rw [List.findIdx?_eq_some_iff_getElem]
    obtain ⟨h1, h2⟩ := List.getElem?_eq_some_iff.1 hx
    refine ⟨h1, by rw [h2]; exact hp, fun j hj => ?_⟩
    have := h l[j] (List.mem_of_getElem? (i := j) (by rw [List.getElem?_take, if_pos hj]; exact List.getElem?_eq_getElem (by omega)))
    rw [this]; simp
  unfold findI; rw [this]
set_option maxRecDepth 100000 in
set_option maxHeartbeats 2000000 in
theorem IndexFuncS_any (l : List ByteArray) (p : ByteArray → Bool) (g : Nat) (cb : Array Value) (a : Option Addr) (cap n : Nat) (w : World) (hn : l.length = n) (hnc : n ≤ cap) (hcm : cap ≤ maxLen) (hl : Strs w a l)
    (eg : ∀ args w, (callFunc g args).run Tryz.prog w = .ok (.enter g args) w) (hp : ∀ s ∈ l, ∀ w', Ext w w' → Calls Tryz.prog g (#[.string s] ++ cb) w' (Ret (.bool (p s)) w')) :
    Calls Tryz.prog 80 #[.slice a n cap, .func (.func g) #[] cb] w (Ret (.int .i64 (findI p l)) w) := by
  unfold maxLen at hcm
  have HN := Lib.hid hn; have HL := Lib.hid hl; have HP := Lib.hid hp
  clear hn hl hp
  go_enter Tryz.func80, Tryz.ntmps80
  go_wp2_with fail
  go_loopw [8] (fun i wr => ∃ k : Nat, k ≤ n ∧ i = .int .i64 k ∧ (∀ s ∈ l.take k, p s = false) ∧ Ext w wr) (fun i _ => n - (intOf i).toNat)
  case atStart => exact ⟨0, Nat.zero_le _, rfl, fun s h => (by simp at h), Below.refl _ _⟩
  case round =>
    obtain ⟨k, hk, rfl, hno, hE⟩ := hrel
    have HNO := Lib.hid hno; have HE := Lib.hid hE
    clear hno hE
    by_cases hlt : k < n
    · obtain ⟨s, hs⟩ := get_some HN.out hlt
      obtain ⟨b, off, rfl, d0, hsz⟩ := (HL.out.ext HE.out) k s hs
      rw [Nat.mul_one] at d0
      have HS := Lib.hid hs
      have HC := Lib.hid (HP.out s (List.mem_of_getElem? hs))
      have hkc : k ≤ cap := by omega
      clear hs hsz
      cases hq : p s
      · have HQ := Lib.hid hq
        clear hq
        go_wp2_with (go_at_fn g; refine (HC.out _ HE.out).mono ?_; rintro e w1 ⟨rfl, hE1⟩; rw [HQ.out]; have HE1 := Lib.hid hE1; clear hE1)
        go_roundw
        case rel => exact ⟨k + 1, by omega, by go_num, fun s' hs' => by
          rw [take_snoc HS.out, List.mem_append, List.mem_singleton] at hs'
          rcases hs' with h | rfl
          · exact HNO.out s' h
          · exact HQ.out, ext_trans HE.out HE1.out⟩
        case measure => simp [intOf]; omega
      · have HQ := Lib.hid hq
        have HF := Lib.hid (findI_some HS.out hq HNO.out)
        clear hq
        go_wp2_with (go_at_fn g; refine (HC.out _ HE.out).mono ?_; rintro e w1 ⟨rfl, hE1⟩; rw [HQ.out]; have HE1 := Lib.hid hE1; clear hE1)
        go_ret
        exact ⟨ret_int HF.out.symm, ext_trans HE.out HE1.out⟩
    · obtain rfl : k = n := by omega
      have HF := Lib.hid (findI_none (p := p) (l := l) (by have := HNO.out; rwa [List.take_of_length_le (by rw [HN.out]; exact Nat.le_refl _)] at this))
      go_wp2_with fail
      go_ret
      exact ⟨ret_int HF.out.symm, HE.out⟩
theorem fr_setCells (b : Nat) : ∀ (vs : List Value) (o : Nat) (w : World), Fr (fun k => k = b) w (w.setCells b o vs)
  | [], _, w => Fr.refl _ w
  | v :: vs, o, w => by
    rw [World.setCells]
    exact (Fr.setCell (S := fun k => k = b) w ⟨b, o, none⟩ v rfl).trans (fr_setCells b vs (o + 1) _)
theorem zeroCells_one (z : Value) (n : Nat) : (Builtin.zeroCells #[z] n).toList = List.replicate n z := by
  apply List.ext_getElem
  · simp [Builtin.zeroCells]
  · intro i h1 h2
    simp [Builtin.zeroCells, Nat.mod_one]
/-- 'clear(s)', of a row of one-cell elements. -/
theorem run_clear {P : Program} {w : World} {e t ty : TypeId} {z : Value} (ht : P.underlying t = some (.slice e)) (hz : (zeroValue e).run P w = .ok z w) (hz1 : z.oneCell' = true) (hzc : z.cells = #[z]) (g k m c : Nat)
    (hc : ∀ j, j < m + 1 → (w.cell? ⟨g, k + j, none⟩).isSome = true) (hf : ∀ j, j < m + 1 → w.frozen? ⟨g, k + j, none⟩ = false) :
    (Builtin.clear_ #[t] ty #[.slice (some ⟨g, k, none⟩) (m + 1) c]).run P w = .ok (.tuple #[]) (w.setCells g k (List.replicate (m + 1) z)) := by
  have hr := run_storeCells_cells (P := P) g k (List.replicate (m + 1) z) 0 w (fun j hj => by rw [Nat.add_zero]; exact hc j (by simpa using hj)) (fun j hj => by rw [Nat.add_zero]; exact hf j (by simpa using hj)) (fun v hv => by rw [List.eq_of_mem_replicate hv]; exact hz1)
  rw [Nat.add_zero] at hr
  simp [Builtin.clear_, run_underlying ht, hz, hzc, zeroCells_one, hr, Result.andThen]
theorem strs_own {w : World} {base : Nat} {e : TypeId} {v : Value} {n : Nat} {l : List ByteArray} (hz : ∀ s ∈ l, s.size ≤ maxLen) (hn : l.length = n) (h : w.ownsRow base e 1 v n (l.map Value.string)) : SlV 1 StrAt w v l := by
  have e1 : l.flatMap (fun s => [Value.string s]) = l.map Value.string := by
    clear h hn hz
    induction l with
    | nil => rfl
    | cons x l ih => rw [List.flatMap_cons, List.map_cons, ih]; rfl
  rw [← e1] at h
  exact own_slv (cells := fun s => [Value.string s]) (fun _ => rfl) (fun b o x hx hc => ⟨hc 0 _ rfl, hz x hx⟩) hn h
/-- What is kept of the first q. -/
def keptTo (p : ByteArray → Bool) (l : List ByteArray) (q : Nat) : List ByteArray := (l.take q).filter fun s => !p s
theorem keptTo_keep {p : ByteArray → Bool} {l : List ByteArray} {q : Nat} {x : ByteArray} (h : l[q]? = some x) (hp : p x = false) : keptTo p l (q + 1) = keptTo p l q ++ [x] := by
  unfold keptTo; rw [take_snoc h, List.filter_append]; simp [hp]
theorem keptTo_drop {p : ByteArray → Bool} {l : List ByteArray} {q : Nat} {x : ByteArray} (h : l[q]? = some x) (hp : p x = true) : keptTo p l (q + 1) = keptTo p l q := by
  unfold keptTo; rw [take_snoc h, List.filter_append]; simp [hp]
set_option maxRecDepth 100000 in
set_option maxHeartbeats 4000000 in
/-- slices.DeleteFunc at a row of the call's own. -/
theorem DeleteFuncS_any (l : List ByteArray) (p : ByteArray → Bool) (g : Nat) (cb : Array Value) (v : Value) (base n : Nat) (w : World) (hn : l.length = n) (hfew : n ≤ 100000) (hz : ∀ s ∈ l, s.size ≤ maxLen) (hown : w.ownsRow base 9 1 v n (l.map Value.string))
    (eg : ∀ args w, (callFunc g args).run Tryz.prog w = .ok (.enter g args) w) (hp : ∀ s ∈ l, ∀ w', Fr (fun b => v.ownBlock = some b) w w' → Calls Tryz.prog g (#[.string s] ++ cb) w' (Ret (.bool (p s)) w')) :
    Calls Tryz.prog 50 #[v, .func (.func g) #[] cb] w fun e w' => ∃ v', e = .returned v' ∧ SlV 1 StrAt w' v' (l.filter fun s => !p s) ∧ Fr (fun b => v.ownBlock = some b) w w' := by
  have HN := Lib.hid hn; have HZ := Lib.hid hz; have HOWN := Lib.hid hown; have HP := Lib.hid hp
  obtain ⟨a, cap, hv, hlc, hcm, hsl⟩ := strs_own hz hn hown
  have HIF := Lib.hid (IndexFuncS_any l p g cb a cap n w hn (by omega) hcm hsl eg fun s hs w' hE => hp s hs w' (Fr.of_ext hE))
  rw [hn] at hv hlc
  unfold maxLen at hcm
  have hvr := strs_own hz hn hown
  have HVR := Lib.hid hvr
  subst hv
  clear hn hz hown hp hsl hvr
  cases hi : l.findIdx? p with
  | none =>
    have hi1 : findI p l = -1 := by unfold findI; rw [hi]
    have hall : (l.filter fun s => !p s) = l := by
      rw [List.filter_eq_self]
      intro s hs
      rw [List.findIdx?_eq_none_iff.1 hi s hs]; rfl
    have HA := Lib.hid hall; have HI := Lib.hid hi1
    clear hi hi1 hall
    go_enter Tryz.func50, Tryz.ntmps50
    go_wp2_with (go_at_call 80; refine HIF.out.mono ?_; rintro e w1 ⟨rfl, hE1⟩; rw [HI.out]; have HE1 := Lib.hid hE1; clear hE1)
    go_ret
    refine ⟨_, rfl, ?_, Fr.of_ext HE1.out⟩
    rw [HA.out]; exact HVR.out.ext HE1.out
  | some i0 =>
    have hi1 : findI p l = i0 := by unfold findI; rw [hi]
    obtain ⟨hlt0, hp0, hbefore⟩ := List.findIdx?_eq_some_iff_getElem.1 hi
    have hx0 : l[i0]? = some l[i0] := List.getElem?_eq_getElem hlt0
    have hk0 : keptTo p l i0 = l.take i0 := by
      unfold keptTo
      rw [List.filter_eq_self]
      intro s hs
      obtain ⟨j, hj, rfl⟩ := List.getElem_of_mem hs
      rw [List.length_take] at hj
      have := hbefore j (by omega)
      rw [List.getElem_take]
      simpa using this
    have hk1 : keptTo p l (i0 + 1) = l.take i0 := by rw [keptTo_drop hx0 hp0, hk0]
    have hlt : i0 < n := by rw [← HN.out]; exact hlt0
    obtain ⟨g0, rfl⟩ : ∃ g0, a = some ⟨g0, 0, none⟩ := by
      rcases own_form HOWN.out with ⟨_, h, _⟩ | ⟨g0, c0, h, _⟩
      · omega
      · cases h; exact ⟨g0, rfl⟩
    have t0 : ((i0 : Int) == -1) = false := by rw [beq_eq_false_iff_ne]; omega
    have HI := Lib.hid hi1; have HK1 := Lib.hid hk1
    clear hi hi1 hp0 hbefore hx0 hk0 hk1
    go_enter Tryz.func50, Tryz.ntmps50
    go_wp2_with (go_at_call 80; refine HIF.out.mono ?_; rintro e w1 ⟨rfl, hE1⟩; rw [HI.out]; have HE1 := Lib.hid hE1; clear hE1)
    go_loopw [6, 5] (fun j i wr => ∃ (q k : Nat) (xs : List ByteArray), q ≤ n ∧ k < q ∧ j = .int .i64 q ∧ i = .int .i64 k ∧ wr.ownsRow base 9 1 (.slice (some ⟨g0, 0, none⟩) n cap) n (xs.map Value.string) ∧ xs.length = n ∧ xs.take k = keptTo p l q ∧ xs.drop q = l.drop q ∧ Fr (fun b => (Value.slice (some ⟨g0, 0, none⟩) n cap).ownBlock = some b) w wr) (fun j _ _ => n - (intOf j).toNat)
    case atStart => exact ⟨i0 + 1, i0, l, by omega, by omega, by go_num, rfl, own_ext HOWN.out HE1.out, HN.out, HK1.out.symm, rfl, Fr.of_ext HE1.out⟩
    case round =>
      obtain ⟨q, k, xs, hq, hkq, rfl, rfl, hown, hxl, hxt, hxd, hF⟩ := hrel
      have HO := Lib.hid hown; have HXL := Lib.hid hxl; have HXT := Lib.hid hxt; have HXD := Lib.hid hxd; have HF := Lib.hid hF
      clear hown hxl hxt hxd hF
      by_cases hlq : q < n
      · obtain ⟨x, hx⟩ := get_some HN.out hlq
        have hxq : xs[q]? = some x := by
          have := congrArg (fun l => l[0]?) HXD.out
          simp only [List.getElem?_drop, Nat.add_zero] at this
          rw [this]; exact hx
        have d0 : wr.cell? ⟨g0, q, none⟩ = some (.string x) := own_cell HO.out rfl (by rw [List.getElem?_map, hxq]; rfl)
        have HC := Lib.hid (HP.out x (List.mem_of_getElem? hx) wr HF.out)
        have HXQ := Lib.hid hxq
        have hqc : q ≤ cap := by omega
        have hkc : k ≤ cap := by omega
        have HX := Lib.hid hx
        clear hx hxq
        cases hpx : p x
        · have HPX := Lib.hid hpx
          have HKT := Lib.hid (keptTo_keep HX.out hpx)
          clear hpx
          go_wp2_with (first
            | (go_at_fn g; refine HC.out.mono ?_; rintro e w2 ⟨rfl, hE2⟩; rw [HPX.out]
               have ho2 := own_ext HO.out hE2
               have k0 : (w2.cell? ⟨g0, k, none⟩).isSome = true := by
                 rw [ho2.cellAt k (by omega), List.getElem?_map, List.getElem?_eq_getElem (by rw [HXL.out]; omega)]; rfl
               obtain ⟨u, hu⟩ := Option.isSome_iff_exists.1 k0
               have fz := ho2.frozenAt k
               have HO2 := Lib.hid ho2; have HE2 := Lib.hid hE2
               clear ho2 k0 hE2))
          obtain ⟨ho3, hg3⟩ := HO2.out.stored k (.string x)
          go_roundw
          case rel =>
            refine ⟨q + 1, k + 1, xs.set k x, by omega, by omega, by go_num, by go_num, by rw [List.map_set]; exact ho3, by rw [List.length_set, HXL.out], ?_, ?_, (HF.out.trans (Fr.of_ext HE2.out)).trans ((Fr.grown hg3).mono fun b _ hb => hb)⟩
            · rw [HKT.out, ← HXT.out]
              have hk : k < xs.length := by rw [HXL.out]; omega
              rw [List.take_add_one, List.take_set_of_le (Nat.le_refl _), List.getElem?_set_self hk]; rfl
            · rw [List.drop_set_of_lt (by omega)]
              have := congrArg (List.drop 1) HXD.out
              rw [List.drop_drop, List.drop_drop] at this
              exact this
          case measure => simp [intOf]; omega
        · have HPX := Lib.hid hpx
          have HKT := Lib.hid (keptTo_drop HX.out hpx)
          clear hpx
          go_wp2_with (go_at_fn g; refine HC.out.mono ?_; rintro e w2 ⟨rfl, hE2⟩; rw [HPX.out]; have HE2 := Lib.hid hE2; clear hE2)
          go_roundw
          case rel =>
            refine ⟨q + 1, k, xs, by omega, by omega, by go_num, rfl, own_ext HO.out HE2.out, HXL.out, by rw [HKT.out]; exact HXT.out, ?_, HF.out.trans (Fr.of_ext HE2.out)⟩
            have := congrArg (List.drop 1) HXD.out
            rw [List.drop_drop, List.drop_drop] at this
            exact this
          case measure => simp [intOf]; omega
      · obtain rfl : q = n := by omega
        obtain ⟨m, hm⟩ : ∃ m, q - k = m + 1 := ⟨q - k - 1, by omega⟩
        have hkc : k ≤ cap := by omega
        have HC := Lib.hid (show ∀ j, j < m + 1 → (wr.cell? ⟨g0, k + j, none⟩).isSome = true from fun j hj => by
          rw [HO.out.cellAt (k + j) (by omega), List.getElem?_map, List.getElem?_eq_getElem (by rw [HXL.out]; omega)]; rfl)
        have HFZ := Lib.hid (show ∀ j, j < m + 1 → wr.frozen? ⟨g0, k + j, none⟩ = false from fun j _ => HO.out.frozenAt _)
        have hcl := run_clear (P := Tryz.prog) (w := wr) (ty := 0) Tryz.underlying23 (z := .string ⟨#[]⟩) (by kernel_rfl) rfl rfl g0 k m (cap - k) HC.out HFZ.out
        go_wp2_with fail
        go_ret
        have hF4 := fr_setCells g0 (List.replicate (m + 1) (Value.string ⟨#[]⟩)) k wr
        have hkl : (keptTo p l q).length = k := by rw [← HXT.out, List.length_take, HXL.out]; omega
        have hkf : keptTo p l q = l.filter fun s => !p s := by unfold keptTo; rw [List.take_of_length_le (by rw [HN.out]; exact Nat.le_refl _)]
        refine ⟨.slice (some ⟨g0, 0, none⟩) k cap, rfl, ⟨some ⟨g0, 0, none⟩, cap, by rw [← hkf, hkl], by rw [← hkf, hkl]; exact hkc, by unfold maxLen; omega, fun i x hx => ⟨g0, 0, rfl, ?_, ?_⟩⟩, HF.out.trans (hF4.mono fun b _ hb => by rw [hb]; rfl)⟩
        · rw [← hkf, ← HXT.out] at hx
          have hik : i < k := by have := (List.getElem?_eq_some_iff.1 hx).1; rw [List.length_take] at this; omega
          rw [List.getElem?_take, if_pos hik] at hx
          rw [World.cell?_setCells_out _ _ _ _ _ (fun _ _ => Or.inl (by show 0 + i * 1 < k; omega)), Nat.zero_add, Nat.mul_one]
          exact own_cell HO.out rfl (by rw [List.getElem?_map, hx]; rfl)
        · exact HZ.out x (List.mem_filter.1 (List.mem_of_getElem? hx)).1
set_option maxRecDepth 100000 in
set_option maxHeartbeats 2000000 in
/-- slices.Clone of texts. -/
theorem CloneS_any (l : List ByteArray) (a : Option Addr) (cap n : Nat) (w : World) (hn : l.length = n) (hnc : n ≤ cap) (_hcm : cap ≤ maxLen) (hl : Strs w a l) (hfew : n ≤ 100000) :
    Calls Tryz.prog 51 #[.slice a n cap] w fun e w' => ∃ v, e = .returned v ∧ w'.ownsRow w.heap.size 9 1 v n (l.map Value.string) ∧ Ext w w' := by
  obtain ⟨i0, hi, hz0, hz1, hz2⟩ := info_parts Tryz.infoStr
  have HN := Lib.hid hn; have HL := Lib.hid hl
  clear hn hl
  have q := fun (w : World) (a : Option Addr) (n c : Nat) => Lib.run_eql_slice_nil (P := Tryz.prog) w 23 _ a n c 0 0 Tryz.underlying23
  cases a with
  | none =>
    obtain rfl : n = 0 := by
      rcases Nat.eq_zero_or_pos n with h | h
      · exact h
      · obtain ⟨x, hx⟩ := get_some HN.out h
        obtain ⟨_, _, h1, _⟩ := HL.out 0 x hx
        cases h1
    have hl0 : l = [] := List.eq_nil_of_length_eq_zero HN.out
    have H0 := Lib.hid hl0
    clear hl0
    go_enter Tryz.func51, Tryz.ntmps51
    go_wp2_with fail
    go_ret
    exact ⟨_, rfl, by rw [H0.out]; exact World.ownsRow_nil _ _ _ _, Below.refl _ _⟩
  | some p =>
    have HC := Lib.hid (show ∀ (j : Nat) (u : Value), (l.map Value.string)[j]? = some u → w.cell? (p.add j) = some u from fun j u hu => by
      rw [List.getElem?_map] at hu
      cases hx : l[j]? with
      | none => rw [hx] at hu; cases hu
      | some x =>
        rw [hx] at hu; cases hu
        obtain ⟨b, off, hp, hc, _⟩ := HL.out j x hx
        cases hp
        rw [Nat.mul_one] at hc
        rwa [show ((⟨b, off, none⟩ : Addr).add j) = ⟨b, off + j, none⟩ from by unfold Addr.add; split <;> simp_all])
    go_enter Tryz.func51, Tryz.ntmps51
    go_wp2_with (at_builtin; refine wpList_append_own _ rfl _ _ 23 rfl w.heap.size 9 i0 (.string ⟨#[]⟩) 1 16 Tryz.underlying23 hi hz0 hz1 hz2 rfl (by decide) _ 0 [] rfl (World.ownsRow_made w #[] 0 (Nat.le_refl _) (Nat.zero_le _) (by simp)) p n cap (l.map Value.string) rfl (by rw [List.length_map, HN.out, Nat.mul_one]) (fun j u hu => ((ext_alloc (Below.refl _ w) _).cell (cell_lt (HC.out j u hu))).trans (HC.out j u hu)) (fun u hu => by obtain ⟨x, _, rfl⟩ := List.mem_map.1 hu; rfl) (by unfold maxLen; omega) (by omega) (by simp) ?_; intro v' w1 hown1 hgrow1 _)
    go_ret
    exact ⟨v', rfl, by simpa using hown1, ((Below.refl _ w).alloc (Nat.le_refl _) _).grown hgrow1 (by simp) (fun k hk => by have e : some w.heap.size = some k := hk; cases e; exact Nat.le_refl _)⟩
end Go.Proofs.YtmdmbdbbpdojnaaGreatDoor
namespace Go.Proofs.YtmdmbdbbpdojnaaGreatDoor
open Go.RowKit Nam Pol
attribute [local go_sem] gv_of

/-- A node's four cells. -/
def NodAt : ElR Nod := fun w b o x =>
  w.cell? ⟨b, o, none⟩ = some (.string x.label) ∧ w.cell? ⟨b, o + 1, none⟩ = some (.int .i64 x.here') ∧ w.cell? ⟨b, o + 2, none⟩ = some (.int .i64 x.below) ∧
  (∃ a c, w.cell? ⟨b, o + 3, none⟩ = some (.slice a x.kids.length c) ∧ x.kids.length ≤ c ∧ c ≤ maxLen ∧ Ints w a x.kids) ∧ x.label.size ≤ maxLen
instance : Firm NodAt where
  ext := fun {w w' b o r} h hE => by
    obtain ⟨h0, h1, h2, ⟨a, c, h3, l1, l2, h4⟩, h5⟩ := h
    exact ⟨ext_cell h0 hE, ext_cell h1 hE, ext_cell h2 hE, ⟨a, c, ext_cell h3 hE, l1, l2, h4.ext hE⟩, h5⟩
abbrev Nods (w : World) (a : Option Addr) (l : List Nod) : Prop := SlA 4 NodAt w a l
theorem nod_ne (x y : Nod) (h : (!(x.label.toList == y.label.toList) || (x.here' != y.here') || (x.below != y.below) || !decide (x.kids = y.kids)) = false) : x = y := by
  simp only [Bool.or_eq_false_iff, Bool.not_eq_false', bne_eq_false_iff_eq, beq_iff_eq, decide_eq_true_eq] at h
  obtain ⟨⟨⟨h1, h2⟩, h3⟩, h4⟩ := h
  exact nod_eq.2 ⟨bytes_eq (by rwa [Lib.toList_data, Lib.toList_data] at h1), h2, h3, h4⟩
set_option maxRecDepth 100000 in
set_option maxHeartbeats 4000000 in
theorem SameNodes_any (l m : List Nod) (a c : Option Addr) (cap1 cap2 n1 n2 : Nat) (w : World) (h1 : l.length = n1) (h2 : m.length = n2) (hm1 : n1 ≤ maxLen) (hm2 : n2 ≤ maxLen) (hl : Nods w a l) (hc : Nods w c m) :
    Calls Tryz.prog 62 #[.slice a n1 cap1, .slice c n2 cap2] w (Ret (.bool (decide (l = m))) w) := by
  unfold maxLen at hm1 hm2
  have N1 := Lib.hid h1; have N2 := Lib.hid h2; have HL := Lib.hid hl; have HC := Lib.hid hc; clear h1 h2 hl hc
  by_cases hne : n1 = n2
  rotate_left 1
  · have t : ((n1 : Int) != n2) = true := by rw [bne_iff_ne]; omega
    have HF := Lib.hid (show decide (l = m) = false by rw [decide_eq_false_iff_not]; intro e; exact hne (by rw [← N1.out, ← N2.out, e]))
    clear hne
    go_enter Tryz.func62, Tryz.ntmps62
    go_wp2_with fail
    go_ret
    exact ⟨ret_bool HF.out.symm, Below.refl _ _⟩
  · subst hne
    have t : ((n1 : Int) != n1) = false := by simp
    go_enter Tryz.func62, Tryz.ntmps62
    go_wp2_with fail
    go_loopw [5] (fun i wr => ∃ k : Nat, k ≤ n1 ∧ i = .int .i64 k ∧ l.take k = m.take k ∧ Ext w wr) (fun i _ => n1 - (intOf i).toNat)
    case atStart => exact ⟨0, Nat.zero_le _, rfl, rfl, Below.refl _ _⟩
    case round =>
      obtain ⟨k, hk, rfl, he, hEr⟩ := hrel
      have HEQ := Lib.hid he; clear he
      by_cases hlt : k < n1
      · obtain ⟨x, hx⟩ := get_some N1.out hlt
        obtain ⟨y, hy⟩ := get_some N2.out hlt
        obtain ⟨b, off, rfl, d0, d1, d2, ⟨pa, pc, d3, l1, l2, hps⟩, _⟩ := (HL.out.ext hEr) k x hx
        obtain ⟨b', off', rfl, e0, e1, e2, ⟨qa, qc, e3, g1, g2, hqs⟩, _⟩ := (HC.out.ext hEr) k y hy
        have HX := Lib.hid hx; have HY := Lib.hid hy; have HER := Lib.hid hEr
        have HPS := Lib.hid hps; have HQS := Lib.hid hqs
        have LX := Lib.hid (show x.kids.length ≤ maxLen by omega); have LY := Lib.hid (show y.kids.length ≤ maxLen by omega)
        clear hx hy hEr hps hqs l1 l2 g1 g2
        go_wp2_with fail
        refine wp_region_S (by kernel_rfl) (by kernel_rfl) (by kernel_rfl) (by kernel_rfl) (by kernel_rfl) (fun w' => Ext wr w') ((Fr.drew (fun _ => False) _).ext (fun _ _ h => h)) ?_
        repeat
          first
          | (refine steps_and rfl rfl rfl rfl ?_; simp only [Act.put, List.setIfInBounds_toArray, List.set_cons_succ, List.set_cons_zero])
          | (refine steps_or rfl rfl rfl rfl ?_; simp only [Act.put, List.setIfInBounds_toArray, List.set_cons_succ, List.set_cons_zero])
          | (refine steps_skip rfl ?_; simp only [Act.put, List.setIfInBounds_toArray, List.set_cons_succ, List.set_cons_zero])
          | (refine steps_guard_and rfl rfl rfl rfl rfl ?_; simp only [Act.put, List.setIfInBounds_toArray, List.set_cons_succ, List.set_cons_zero])
          | (refine steps_guard (v := ?_) rfl rfl (fun hb w' hS => ?_) ?_; rotate_left; (focus (have k0 := ext_cell d0 hS; have k1 := ext_cell d1 hS; have k2 := ext_cell d2 hS; have k3 := ext_cell d3 hS; have f0 := ext_cell e0 hS; have f1 := ext_cell e1 hS; have f2 := ext_cell e2 hS; have f3 := ext_cell e3 hS; unfold Gives; go_simp; first | exact is_mk hS | (refine (SameInts_any x.kids y.kids pa qa pc qc _ _ _ rfl rfl LX.out LY.out (HPS.out.ext hS) (HQS.out.ext hS)).mono ?_; rintro e w'' ⟨rfl, h2⟩; exact gave_mk (ext_trans hS h2)))); simp only [Act.put, List.setIfInBounds_toArray, List.set_cons_succ, List.set_cons_zero])
          | (refine steps_guard2 (v := ?_) rfl rfl rfl (fun hb1 hb w' hS => ?_) ?_; rotate_left; (focus (have k0 := ext_cell d0 hS; have k1 := ext_cell d1 hS; have k2 := ext_cell d2 hS; have k3 := ext_cell d3 hS; have f0 := ext_cell e0 hS; have f1 := ext_cell e1 hS; have f2 := ext_cell e2 hS; have f3 := ext_cell e3 hS; unfold Gives; go_simp; first | exact is_mk hS | (refine (SameInts_any x.kids y.kids pa qa pc qc _ _ _ rfl rfl LX.out LY.out (HPS.out.ext hS) (HQS.out.ext hS)).mono ?_; rintro e w'' ⟨rfl, h2⟩; exact gave_mk (ext_trans hS h2)))); simp only [Act.put, List.setIfInBounds_toArray, List.set_cons_succ, List.set_cons_zero])
          | (refine steps_run (v := ?_) rfl (fun w' hS => ?_) ?_; rotate_left; (focus (have k0 := ext_cell d0 hS; have k1 := ext_cell d1 hS; have k2 := ext_cell d2 hS; have k3 := ext_cell d3 hS; have f0 := ext_cell e0 hS; have f1 := ext_cell e1 hS; have f2 := ext_cell e2 hS; have f3 := ext_cell e3 hS; unfold Gives; go_simp; first | exact is_mk hS | (refine (SameInts_any x.kids y.kids pa qa pc qc _ _ _ rfl rfl LX.out LY.out (HPS.out.ext hS) (HQS.out.ext hS)).mono ?_; rintro e w'' ⟨rfl, h2⟩; exact gave_mk (ext_trans hS h2)))); simp only [Act.put, List.setIfInBounds_toArray, List.set_cons_succ, List.set_cons_zero])
        refine steps_end fun w' hE' => ?_
        have HRE := Lib.hid (nod_ne x y)
        cases hq : (!(x.label.toList == y.label.toList) || (x.here' != y.here') || (x.below != y.below) || !decide (x.kids = y.kids))
        · have HQ := Lib.hid (take_eq_snoc HEQ.out HX.out HY.out (HRE.out hq))
          clear hq
          go_wp2_with fail
          go_roundw
          case rel => exact ⟨k + 1, by omega, by go_num, HQ.out, ext_trans HER.out hE'⟩
          case measure => simp [intOf]; omega
        · have HQ := Lib.hid (show decide (l = m) = false by
            rw [decide_eq_false_iff_not]; intro e
            have h1 := HX.out; have h2 := HY.out
            rw [e, h2] at h1; cases h1
            simp at hq)
          clear hq
          go_wp2_with fail
          all_goals
            go_ret
            exact ⟨ret_bool HQ.out.symm, ext_trans HER.out hE'⟩
      · obtain rfl : k = n1 := by omega
        have HQ := Lib.hid (show decide (l = m) = true by
          rw [decide_eq_true_iff]
          have := HEQ.out
          rwa [List.take_of_length_le (by rw [N1.out]; omega), List.take_of_length_le (by rw [N2.out]; omega)] at this)
        go_wp2_with fail
        go_ret
        exact ⟨ret_bool HQ.out.symm, hEr⟩
end Go.Proofs.YtmdmbdbbpdojnaaGreatDoor
namespace Go.Proofs.YtmdmbdbbpdojnaaGreatDoor
open Go.RowKit Nam Pol
attribute [local go_sem] gv_of

set_option maxRecDepth 100000 in
set_option maxHeartbeats 4000000 in
theorem r16kid_any (l : List Nod) (lab : ByteArray) (a : Option Addr) (cap n i : Nat) (x : Nod) (w : World) (hn : l.length = n) (_hnc : n ≤ cap) (_hcm : cap ≤ maxLen) (hl : Nods w a l) (hx : l[i]? = some x) (hk : kidsIn l x.kids) :
    Calls Tryz.prog 93 #[.slice a n cap, .int .i64 (i : Int), .string lab] w (Ret (.int .i64 ((kidIn l lab x.kids).getD (-1))) w) := by
  have hlt : i < n := by rw [← hn]; exact (List.getElem?_eq_some_iff.1 hx).1
  obtain ⟨b, off, rfl, d0, d1, d2, ⟨pa, pc, d3, l1, l2, hps⟩, _⟩ := hl i x hx
  have HN := Lib.hid hn; have HL := Lib.hid hl; have HK := Lib.hid hk; have HPS := Lib.hid hps
  unfold maxLen at l2
  obtain ⟨m, hm⟩ : ∃ m, x.kids.length = m := ⟨_, rfl⟩
  have HM := Lib.hid hm
  rw [hm] at d3 l1
  clear hn hl hx hk hps hm d0 d1 d2
  go_enter Tryz.func93, Tryz.ntmps93
  go_wp2_with fail
  go_loop [7] (fun q => ∃ j : Nat, j ≤ m ∧ q = .int .i64 j ∧ kidIn l lab (x.kids.take j) = none) (fun q => m - (intOf q).toNat)
  case atStart => exact ⟨0, Nat.zero_le _, rfl, by simp [kidIn]⟩
  case round =>
    obtain ⟨j, hj, rfl, hc⟩ := hrel
    have HC := Lib.hid hc; clear hc
    by_cases hlj : j < m
    · obtain ⟨q, hq⟩ := get_some HM.out hlj
      obtain ⟨b', off', rfl, e0⟩ := HPS.out j q hq
      unfold IntAt at e0
      rw [Nat.mul_one] at e0
      obtain ⟨hq0, hqn⟩ := HK.out q (List.mem_of_getElem? hq)
      obtain ⟨k, rfl⟩ : ∃ k : Nat, q = k := ⟨q.toNat, by omega⟩
      obtain ⟨y, hy⟩ := get_some rfl hqn
      rw [Int.toNat_natCast] at hy hqn
      rw [HN.out] at hqn
      obtain ⟨b2, off2, hab, f0, _⟩ := HL.out k y hy
      cases hab
      have HT := Lib.hid (kidIn_take (nodes := l) (lab := lab) hq)
      have HY := Lib.hid hy
      have hjc : j ≤ pc := by omega
      clear hq hy
      cases h1 : (y.label.toList == lab.toList)
      · have HQ := Lib.hid (show kidIn l lab (x.kids.take (j + 1)) = none by
          rw [HT.out HC.out, Int.toNat_natCast, HY.out]; simp only [Option.map_some, h1]; rfl)
        go_wp2_with fail
        go_round
        case rel => exact ⟨j + 1, by omega, by go_num, HQ.out⟩
        case measure => simp [intOf]; omega
      · have HQ := Lib.hid (show kidIn l lab x.kids = some (k : Int) by
          refine kidIn_found (j := j + 1) ?_
          rw [HT.out HC.out, Int.toNat_natCast, HY.out]; simp only [Option.map_some, h1]; rfl)
        go_wp2_with fail
        go_ret
        exact ⟨ret_int (by rw [HQ.out]; rfl), Below.refl _ _⟩
    · obtain rfl : j = m := by omega
      have HQ := Lib.hid (show kidIn l lab x.kids = none by
        have := HC.out; rwa [List.take_of_length_le (by rw [HM.out]; exact Nat.le_refl _)] at this)
      go_wp2_with fail
      go_ret
      exact ⟨ret_int (by rw [HQ.out]; rfl), Below.refl _ _⟩
end Go.Proofs.YtmdmbdbbpdojnaaGreatDoor
namespace Go.Proofs.YtmdmbdbbpdojnaaGreatDoor
open Go.RowKit Nam Pol
attribute [local go_sem] gv_of

theorem Pol.clashRow_le (l : List Rul) (i m : Nat) : (clashRow l i m).length ≤ m := by
  unfold clashRow
  rw [List.length_map]
  exact Nat.le_trans (List.length_filter_le _ _) (by rw [List.length_range]; exact Nat.le_refl _)
theorem Pol.clashTo_le (l : List Rul) (j : Nat) : (clashTo l j).length ≤ j * l.length := by
  induction j with
  | zero => exact Nat.zero_le _
  | succ j ih =>
    have := clashRow_le l j l.length
    rw [clashTo_snoc, List.length_append, Nat.succ_mul]; omega
/-- A pair in two cells. -/
def PairAt : ElR (Nat × Nat) := fun w b o q => w.cell? ⟨b, o, none⟩ = some (.int .i64 (q.1 : Int)) ∧ w.cell? ⟨b, o + 1, none⟩ = some (.int .i64 (q.2 : Int))
instance : Firm PairAt where
  ext := fun h hE => ⟨ext_cell h.1 hE, ext_cell h.2 hE⟩
def pairC (q : Nat × Nat) : List Value := [.int .i64 (q.1 : Int), .int .i64 (q.2 : Int)]
theorem pair_slv {w : World} {base : Nat} {e : TypeId} {v : Value} {n : Nat} {l : List (Nat × Nat)} (hn : l.length = n) (h : w.ownsRow base e 2 v n (l.flatMap pairC)) : SlV 2 PairAt w v l :=
  own_slv (cells := pairC) (fun _ => rfl) (fun b o x _ hc => ⟨by have := hc 0 _ rfl; simpa using this, hc 1 _ rfl⟩) hn h
theorem Tryz.infoPair : (Tryz.prog.info? 38).map (fun i => (i.zero, i.size, i.bytes)) = some (some (.agg #[.int .i64 0, .int .i64 0]), 2, 16) := by kernel_rfl
theorem Tryz.infoInt : (Tryz.prog.info? 3).map (fun i => (i.zero, i.size, i.bytes)) = some (some (.int .i64 0), 1, 8) := by kernel_rfl
/-- A slice is handed back that reads as l. -/
def RetL {α : Type} (m : Nat) (R : ElR α) (l : List α) (w : World) (e : Ending) (w' : World) : Prop := ∃ v, e = .returned v ∧ SlV m R w' v l ∧ Ext w w'
set_option maxRecDepth 100000 in
set_option maxHeartbeats 4000000 in
theorem r16Clash_any (l : List Rul) (a : Option Addr) (cap n : Nat) (w : World) (hn : l.length = n) (hnc : n ≤ cap) (_hcm : cap ≤ maxLen) (hl : Ruls w a l) (hfew : n ≤ 1000) :
    Calls Tryz.prog 19 #[.slice a n cap] w (RetL 2 PairAt (clashL l) w) := by
  obtain ⟨i0, hi, hz0, hz1, hz2⟩ := info_parts Tryz.infoPair
  have HN := Lib.hid hn; have HL := Lib.hid hl
  clear hn hl
  go_enter Tryz.func19, Tryz.ntmps19
  go_wp2_with fail
  go_loopw [4, 3] (fun i o wr => ∃ k : Nat, k ≤ n ∧ i = .int .i64 k ∧ wr.ownsRow w.heap.size 38 2 o (clashTo l k).length ((clashTo l k).flatMap pairC) ∧ Ext w wr) (fun i _ _ => n - (intOf i).toNat)
  case atStart => exact ⟨0, Nat.zero_le _, rfl, World.ownsRow_nil _ _ _ _, Below.refl _ _⟩
  case round =>
    obtain ⟨k, hk, rfl, hown, hEr⟩ := hrel
    have HOWN := Lib.hid hown; have HER := Lib.hid hEr
    clear hown hEr
    by_cases hlt : k < n
    · have hkn : (clashTo l k).length ≤ 1000000 := by
        have h1 := clashTo_le l k
        rw [HN.out] at h1
        exact Nat.le_trans h1 (Nat.mul_le_mul (show k ≤ 1000 by omega) hfew)
      obtain ⟨x, hx⟩ := get_some HN.out hlt
      have HX := Lib.hid hx
      clear hx
      go_wp2_with fail
      go_loopw [5, 3] (fun i o wr => ∃ j : Nat, k + 1 ≤ j ∧ j ≤ n ∧ i = .int .i64 j ∧ wr.ownsRow w.heap.size 38 2 o (clashTo l k ++ clashRow l k j).length ((clashTo l k ++ clashRow l k j).flatMap pairC) ∧ Ext w wr) (fun i _ _ => n - (intOf i).toNat)
      case atStart => exact ⟨k + 1, Nat.le_refl _, hlt, by go_num, by rw [clashRow_nil, List.append_nil]; exact HOWN.out, HER.out⟩
      case round =>
        obtain ⟨j, hj1, hj2, rfl, hown, hEi⟩ := hrel
        have HOI := Lib.hid hown; have HEI := Lib.hid hEi
        clear hown hEi
        by_cases hjt : j < n
        · obtain ⟨y, hy⟩ := get_some HN.out hjt
          obtain ⟨b, off, rfl, d0, d1, ⟨pa, pc, d2, l1, l2, hps⟩, d3, d4, d5, d6, hsz, _⟩ := (HL.out.ext HEI.out) k x HX.out
          obtain ⟨b', off', hab, e0, e1, ⟨qa, qc, e2, g1, g2, hqs⟩, e3, e4, e5, e6, hsz', _⟩ := (HL.out.ext HEI.out) j y hy
          cases hab
          have HB := Lib.hid (show bothAt l k j = bothB x y by unfold bothAt; rw [HX.out, hy])
          have hjl : (clashRow l k j).length ≤ 1000 := by have := clashRow_le l k j; omega
          have HPS := Lib.hid hps; have HQS := Lib.hid hqs
          have L1 := Lib.hid l1; have L2 := Lib.hid l2; have G1 := Lib.hid g1; have G2 := Lib.hid g2
          have hkc : k ≤ cap := by omega
          have hjc : j ≤ cap := by omega
          clear hy hps hqs hsz hsz' l1 l2 g1 g2
          go_wp2_with fail
          refine wp_region_S (by kernel_rfl) (by kernel_rfl) (by kernel_rfl) (by kernel_rfl) (by kernel_rfl) (fun w' => Ext wr w') ((Fr.drew (fun _ => False) _).ext (fun _ _ h => h)) ?_
          repeat
            first
            | (refine steps_and rfl rfl rfl rfl ?_; simp only [Act.put, List.setIfInBounds_toArray, List.set_cons_succ, List.set_cons_zero])
            | (refine steps_or rfl rfl rfl rfl ?_; simp only [Act.put, List.setIfInBounds_toArray, List.set_cons_succ, List.set_cons_zero])
            | (refine steps_skip rfl ?_; simp only [Act.put, List.setIfInBounds_toArray, List.set_cons_succ, List.set_cons_zero])
            | (refine steps_guard_and rfl rfl rfl rfl rfl ?_; simp only [Act.put, List.setIfInBounds_toArray, List.set_cons_succ, List.set_cons_zero])
            | (refine steps_guard (v := ?_) rfl rfl (fun hb w' hS => ?_) ?_; rotate_left; (focus (have k0 := ext_cell d0 hS; have k1 := ext_cell d1 hS; have k2 := ext_cell d2 hS; have k3 := ext_cell d3 hS; have k4 := ext_cell d4 hS; have k5 := ext_cell d5 hS; have k6 := ext_cell d6 hS; have m0 := ext_cell e0 hS; have m1 := ext_cell e1 hS; have m2 := ext_cell e2 hS; have m3 := ext_cell e3 hS; have m4 := ext_cell e4 hS; have m5 := ext_cell e5 hS; have m6 := ext_cell e6 hS; unfold Gives; go_simp; first | exact is_mk hS | (refine (both_any x y pa qa pc qc _ L1.out L2.out G1.out G2.out (HPS.out.ext hS) (HQS.out.ext hS)).mono ?_; rintro e w'' ⟨rfl, h2⟩; exact gave_mk (ext_trans hS h2)))); simp only [Act.put, List.setIfInBounds_toArray, List.set_cons_succ, List.set_cons_zero])
            | (refine steps_guard2 (v := ?_) rfl rfl rfl (fun hb1 hb w' hS => ?_) ?_; rotate_left; (focus (have k0 := ext_cell d0 hS; have k1 := ext_cell d1 hS; have k2 := ext_cell d2 hS; have k3 := ext_cell d3 hS; have k4 := ext_cell d4 hS; have k5 := ext_cell d5 hS; have k6 := ext_cell d6 hS; have m0 := ext_cell e0 hS; have m1 := ext_cell e1 hS; have m2 := ext_cell e2 hS; have m3 := ext_cell e3 hS; have m4 := ext_cell e4 hS; have m5 := ext_cell e5 hS; have m6 := ext_cell e6 hS; unfold Gives; go_simp; first | exact is_mk hS | (refine (both_any x y pa qa pc qc _ L1.out L2.out G1.out G2.out (HPS.out.ext hS) (HQS.out.ext hS)).mono ?_; rintro e w'' ⟨rfl, h2⟩; exact gave_mk (ext_trans hS h2)))); simp only [Act.put, List.setIfInBounds_toArray, List.set_cons_succ, List.set_cons_zero])
            | (refine steps_run (v := ?_) rfl (fun w' hS => ?_) ?_; rotate_left; (focus (have k0 := ext_cell d0 hS; have k1 := ext_cell d1 hS; have k2 := ext_cell d2 hS; have k3 := ext_cell d3 hS; have k4 := ext_cell d4 hS; have k5 := ext_cell d5 hS; have k6 := ext_cell d6 hS; have m0 := ext_cell e0 hS; have m1 := ext_cell e1 hS; have m2 := ext_cell e2 hS; have m3 := ext_cell e3 hS; have m4 := ext_cell e4 hS; have m5 := ext_cell e5 hS; have m6 := ext_cell e6 hS; unfold Gives; go_simp; first | exact is_mk hS | (refine (both_any x y pa qa pc qc _ L1.out L2.out G1.out G2.out (HPS.out.ext hS) (HQS.out.ext hS)).mono ?_; rintro e w'' ⟨rfl, h2⟩; exact gave_mk (ext_trans hS h2)))); simp only [Act.put, List.setIfInBounds_toArray, List.set_cons_succ, List.set_cons_zero])
          refine steps_end fun w' hE' => ?_
          cases hq : bothB x y
          · have HQ := Lib.hid (show clashTo l k ++ clashRow l k (j + 1) = clashTo l k ++ clashRow l k j by
              rw [clashRow_snoc, HB.out, hq, Bool.and_false, if_neg (by simp), List.append_nil])
            clear hq
            go_wp2_with fail
            go_roundw
            case rel => exact ⟨j + 1, by omega, by omega, by go_num, by rw [HQ.out]; exact own_ext HOI.out hE', ext_trans HEI.out hE'⟩
            case measure => simp [intOf]; omega
          · have HQ := Lib.hid (show clashTo l k ++ clashRow l k (j + 1) = (clashTo l k ++ clashRow l k j) ++ [(k, j)] by
              rw [clashRow_snoc, HB.out, hq, Bool.and_true, if_pos (by simp; omega), List.append_assoc])
            clear hq
            have hE2 := ext_trans HEI.out hE'
            have hsz := hE2.size
            have hown := own_ext HOI.out hE'
            have hle : (clashTo l k ++ clashRow l k j).length ≤ 1001000 := by rw [List.length_append]; omega
            go_wp2_with (at_builtin; refine wpList_append_own _ rfl _ _ 36 rfl w.heap.size 38 i0 (.agg #[.int .i64 0, .int .i64 0]) 2 16 Tryz.underlying36 hi hz0 hz1 hz2 rfl (by decide) u3 _ _ rfl (hown.alloc _) ⟨w'.heap.size, 0, none⟩ 1 1 [.int .i64 k, .int .i64 j] rfl rfl (two_cells_new _ _ _ _) (by simp [Value.oneCell']) (by unfold maxLen; omega) (by omega) (by simp; omega) ?_; intro v' w1 hown1 hgrow1 _)
            go_roundw
            case rel =>
              refine ⟨j + 1, by omega, by omega, by go_num, ?_, (hE2.alloc hsz _).grown hgrow1 (by simp; omega) (own_ge hown)⟩
              rw [HQ.out, List.flatMap_append, List.length_append]
              exact hown1
            case measure => simp [intOf]; omega
        · obtain rfl : j = n := by omega
          have HQ := Lib.hid (show clashTo l k ++ clashRow l k j = clashTo l (k + 1) by rw [clashTo_snoc, HN.out])
          go_wp2_with fail
          go_roundw
          case rel => exact ⟨k + 1, by omega, by go_num, by rw [← HQ.out]; exact HOI.out, HEI.out⟩
          case measure => simp [intOf]; omega
    · obtain rfl : k = n := by omega
      have HQ := Lib.hid (show clashTo l k = clashL l by unfold clashL; rw [HN.out])
      go_wp2_with fail
      go_ret
      exact ⟨_, rfl, by rw [← HQ.out]; exact pair_slv rfl HOWN.out, HER.out⟩
end Go.Proofs.YtmdmbdbbpdojnaaGreatDoor
