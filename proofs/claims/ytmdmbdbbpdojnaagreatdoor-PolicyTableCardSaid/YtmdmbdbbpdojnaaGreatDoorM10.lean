/- Walks of the document's functions on rules: Few. Walks of the program's functions on rules: named, formed. Walks of the program's functions on rules: formed. Maps that a call makes: lists of keys and values, in the order in which the keys came; lookups, stores, the length. -/
import Derived.Test.YtmdmbdbbpdojnaaGreatDoorM09
import Derived.Shelf.Strings.SlTrimAscii
import Derived.Test.YtmdmbdbbpdojnaaGreatDoorM01
import Derived.Maps.OwnIn
namespace Go.Proofs.YtmdmbdbbpdojnaaGreatDoor
open Go.RowKit Nam Pol
attribute [local go_sem] gv_of

set_option maxRecDepth 100000 in
set_option maxHeartbeats 4000000 in
theorem Few_any (l : List Rul) (a : Option Addr) (cap n : Nat) (w : World) (hn : l.length = n) (hnc : n ≤ cap) (hcm : cap ≤ maxLen) (hl : Ruls w a l) :
    Calls Tryz.prog 35 #[.slice a n cap] w fun e w' => e = .returned (.bool (fewB l)) ∧ w = w' := by
  have hcm' : n ≤ 9223372036854775807 := by unfold maxLen at hcm; omega
  clear hcm hnc
  have HN := Lib.hid hn; have HL := Lib.hid hl; clear hn hl
  go_enter Tryz.func35, Tryz.ntmps35
  go_wp2_with fail
  go_loop [3] (fun i => ∃ k : Nat, k ≤ n ∧ k ≤ 40 ∧ i = .int .i64 k ∧ (l.take k).all ruleFew = true) (fun i => 40 - (intOf i).toNat)
  case atStart => exact ⟨0, Nat.zero_le _, by omega, rfl, rfl⟩
  case round =>
    obtain ⟨k, hk, hk40, rfl, hp⟩ := hrel
    have HP := Lib.hid hp; clear hp
    by_cases hlt : k < n
    · by_cases h40 : k < 40
      · obtain ⟨r, hr⟩ := get_some HN.out hlt
        obtain ⟨b, off, rfl, d0, d1, ⟨pa, pc, d2, l1, l2, hps⟩, d3, d4, d5, d6, hs, _⟩ := HL.out k r hr
        have HF := Lib.hid (fun h => fewB_false hr h40 h)
        have HT := Lib.hid (all_take_snoc hr ruleFew)
        have HPS := Lib.hid hps
        unfold maxLen at l2 hs
        clear hr hps
        obtain ⟨np, hnp⟩ : ∃ m, r.pats.length = m := ⟨_, rfl⟩
        have NP := Lib.hid hnp
        rw [hnp] at d2 l1
        clear hnp
        cases h1 : decide ((12 : Int) < np)
        · cases h2 : decide ((100 : Int) < r.name.size)
          · go_wp2_with fail
            go_loop [4] (fun i => ∃ j : Nat, j ≤ np ∧ i = .int .i64 j ∧ (r.pats.take j).all (fun p => decide (p.size ≤ 200)) = true) (fun i => np - (intOf i).toNat)
            case atStart => exact ⟨0, Nat.zero_le _, rfl, rfl⟩
            case round =>
              obtain ⟨j, hj, rfl, hq⟩ := hrel
              have HQ := Lib.hid hq; clear hq
              by_cases hlj : j < np
              · obtain ⟨p, hp⟩ := get_some NP.out hlj
                obtain ⟨b', off', rfl, c0, _⟩ := HPS.out j p hp
                rw [Nat.mul_one] at c0
                have HT2 := Lib.hid (all_take_snoc hp (fun p => decide (p.size ≤ 200)))
                have HM := Lib.hid (List.mem_of_getElem? hp)
                clear hp
                cases h3 : decide ((200 : Int) < p.size)
                · have HQ2 := Lib.hid (show (r.pats.take (j + 1)).all (fun p => decide (p.size ≤ 200)) = true by
                    rw [HT2.out, HQ.out]; simp at h3 ⊢; omega)
                  go_wp2_with fail
                  go_round
                  case rel => exact ⟨j + 1, by omega, by go_num, HQ2.out⟩
                  case measure => simp [intOf]; omega
                · have HQ2 := Lib.hid (show fewB l = false by
                    refine HF.out ?_
                    unfold ruleFew
                    rw [Bool.and_eq_false_iff]; right
                    rw [Bool.eq_false_iff]; intro hh
                    have := List.all_eq_true.1 hh p HM.out
                    simp at h3 this; omega)
                  go_wp2_with fail
                  go_ret
                  exact ⟨ret_bool HQ2.out.symm, rfl⟩
              · obtain rfl : j = np := by omega
                have HQ2 := Lib.hid (show (l.take (k + 1)).all ruleFew = true by
                  have h := HQ.out
                  rw [← NP.out, List.take_length] at h
                  rw [HT.out, HP.out]
                  unfold ruleFew
                  rw [h, NP.out]
                  simp at h1 h2 ⊢; omega)
                go_wp2_with fail
                go_round
                case rel => exact ⟨k + 1, by omega, by omega, by go_num, HQ2.out⟩
                case measure => simp [intOf]; omega
          · have HQ := Lib.hid (show fewB l = false by
              refine HF.out ?_
              unfold ruleFew
              rw [show decide (r.name.size ≤ 100) = false by simp at h2 ⊢; omega]; simp)
            go_wp2_with fail
            go_ret
            exact ⟨ret_bool HQ.out.symm, rfl⟩
        · have HQ := Lib.hid (show fewB l = false by
            refine HF.out ?_
            unfold ruleFew
            rw [NP.out, show decide (np ≤ 12) = false by simp at h1 ⊢; omega]; simp)
          go_wp2_with fail
          go_ret
          exact ⟨ret_bool HQ.out.symm, rfl⟩
      · have HQ := Lib.hid (show fewB l = false by
          unfold fewB; rw [HN.out, show decide (n ≤ 40) = (n ≤ 40 : Bool) from rfl]
          by_cases h : n ≤ 40
          · exfalso; omega
          · simp [h])
        have t : decide ((n : Int) ≤ 40) = false := by simp; omega
        go_wp2_with fail
        go_ret
        exact ⟨ret_bool HQ.out.symm, rfl⟩
    · obtain rfl : k = n := by omega
      have HQ := Lib.hid (show fewB l = true by
        have h := HP.out
        unfold fewB
        rw [List.take_of_length_le (by rw [HN.out]; exact Nat.le_refl _)] at h
        rw [List.take_of_length_le (by rw [HN.out]; exact hk40), h, HN.out]; simpa using hk40)
      have t : decide ((k : Int) ≤ 40) = true := by simp; omega
      go_wp2_with fail
      go_ret
      exact ⟨ret_bool HQ.out.symm, rfl⟩
end Go.Proofs.YtmdmbdbbpdojnaaGreatDoor
namespace Go.Proofs.YtmdmbdbbpdojnaaGreatDoor
open Go.RowKit Nam Pol
attribute [local go_sem] gv_of

def letters : ByteArray := ⟨#[97, 98, 99, 100, 101, 102, 103, 104, 105, 106, 107, 108, 109, 110, 111, 112, 113, 114, 115, 116, 117, 118, 119, 120, 121, 122, 48, 49, 50, 51, 52, 53, 54, 55, 56, 57, 45]⟩
theorem letters_all : ∀ c : UInt8, letters.data.toList.contains c = nameCh (c.toNat : Int) := by
  have h : ∀ n : Fin 256, letters.data.toList.contains (UInt8.ofNat n.val) = nameCh ((UInt8.ofNat n.val).toNat : Int) := by decide +kernel
  intro c
  have := h ⟨c.toNat, c.toNat_lt⟩
  simpa using this
theorem drop_nil {p : UInt8 → Bool} : ∀ {l : List UInt8}, l.dropWhile p = [] ↔ ∀ c ∈ l, p c = true
  | [] => by simp
  | c :: l => by
    rw [List.dropWhile_cons]
    split
    · rename_i h; rw [drop_nil]; simp [h]
    · rename_i h; simp [h]
theorem trim_nil (l : Str) : Lib.trimS l letters.data.toList = [] ↔ ∀ c ∈ l, nameCh (c.toNat : Int) = true := by
  have hp : (fun c => letters.data.toList.contains c) = fun c : UInt8 => nameCh (c.toNat : Int) := funext letters_all
  unfold Lib.trimS Lib.trimLeftS Lib.trimRightS
  rw [hp, drop_nil]
  constructor
  · intro h c hc
    by_cases hd : (l.reverse.dropWhile fun c : UInt8 => nameCh (c.toNat : Int)) = []
    · exact drop_nil.1 hd c (by simpa using hc)
    · exfalso
      have hne : (l.reverse.dropWhile fun c : UInt8 => nameCh (c.toNat : Int)).head hd ∈ (l.reverse.dropWhile fun c : UInt8 => nameCh (c.toNat : Int)).reverse := by simp
      have h1 := h _ hne
      have h2 := List.head_dropWhile_not (fun c : UInt8 => nameCh (c.toNat : Int)) hd
      rw [h1] at h2; cases h2
  · intro h c hc
    refine h c ?_
    have h1 : c ∈ l.reverse.dropWhile fun c : UInt8 => nameCh (c.toNat : Int) := by simpa using hc
    have := (List.dropWhile_sublist _).subset h1
    simpa using this
theorem ruleName_trim (s : ByteArray) : ruleName s.data.toList = (!(s.toList.isEmpty) && decide ((s.size : Int) ≤ 16) && (Lib.trimS s.data.toList letters.data.toList).isEmpty) := by
  rw [Lib.toList_data, Bool.eq_iff_iff]
  unfold ruleName
  simp only [Bool.and_eq_true, decide_eq_true_eq, List.all_eq_true, Bool.not_eq_true', List.isEmpty_iff]
  rw [trim_nil, ← Lib.size_eq]
  have : s.data.toList.isEmpty = false ↔ 1 ≤ s.size := by
    rw [Lib.size_eq]; cases s.data.toList <;> simp
  rw [this]
  constructor
  · rintro ⟨⟨h1, h2⟩, h3⟩; exact ⟨⟨h1, by omega⟩, h3⟩
  · rintro ⟨⟨h1, h2⟩, h3⟩; exact ⟨⟨h1, by omega⟩, h3⟩
set_option maxHeartbeats 1000000 in
theorem named_any (s : ByteArray) (w : World) (hs : s.size ≤ maxLen) :
    Calls Tryz.prog 98 #[.string s] w (Ret (.bool (ruleName s.data.toList)) w) := by
  unfold maxLen at hs
  have HR := Lib.hid (ruleName_trim s)
  have htr : ∀ w', Calls Tryz.prog 123 #[.string s, .string ⟨#[97, 98, 99, 100, 101, 102, 103, 104, 105, 106, 107, 108, 109, 110, 111, 112, 113, 114, 115, 116, 117, 118, 119, 120, 121, 122, 48, 49, 50, 51, 52, 53, 54, 55, 56, 57, 45]⟩] w' (Ret (.string ⟨(Lib.trimS s.data.toList letters.data.toList).toArray⟩) w') := fun w' =>
    (Any.strings_Trim_laid Tryz.lays160 (by kernel_rfl) s letters w' hs (by decide) (ascii_of_all (by decide))).mono fun _ _ h => h
  have HT := Lib.hid htr
  clear htr
  go_enter Tryz.func98, Tryz.ntmps98
  go_upto_region 1 with (fail)
  refine wp_region_P (fun w' => Ext w w') (Below.refl _ _) ?_
  repeat
    first
    | (refine steps_and rfl rfl rfl rfl ?_; simp only [Act.put, List.setIfInBounds_toArray, List.set_cons_succ, List.set_cons_zero])
    | (refine steps_or rfl rfl rfl rfl ?_; simp only [Act.put, List.setIfInBounds_toArray, List.set_cons_succ, List.set_cons_zero])
    | (refine steps_skip rfl ?_; simp only [Act.put, List.setIfInBounds_toArray, List.set_cons_succ, List.set_cons_zero])
    | (refine steps_guard_and rfl rfl rfl rfl rfl ?_; simp only [Act.put, List.setIfInBounds_toArray, List.set_cons_succ, List.set_cons_zero])
    | (refine steps_guard (v := ?_) rfl rfl (fun hb w' hS => ?_) ?_; rotate_left; (focus (skip; unfold Gives; go_simp; first | exact is_mk hS | (refine (HT.out _).mono ?_; rintro e w'' ⟨rfl, h2⟩; exact gave_mk (ext_trans hS h2)))); simp only [Act.put, List.setIfInBounds_toArray, List.set_cons_succ, List.set_cons_zero])
    | (refine steps_guard2 (v := ?_) rfl rfl rfl (fun hb1 hb w' hS => ?_) ?_; rotate_left; (focus (skip; unfold Gives; go_simp; first | exact is_mk hS | (refine (HT.out _).mono ?_; rintro e w'' ⟨rfl, h2⟩; exact gave_mk (ext_trans hS h2)))); simp only [Act.put, List.setIfInBounds_toArray, List.set_cons_succ, List.set_cons_zero])
    | (refine steps_run (v := ?_) rfl (fun w' hS => ?_) ?_; rotate_left; (focus (skip; unfold Gives; go_simp; first | exact is_mk hS | (refine (HT.out _).mono ?_; rintro e w'' ⟨rfl, h2⟩; exact gave_mk (ext_trans hS h2)))); simp only [Act.put, List.setIfInBounds_toArray, List.set_cons_succ, List.set_cons_zero])
  refine steps_end fun w' hE => ?_
  go_wp2_with fail
  go_ret
  exact ⟨ret_bool (by rw [HR.out]), hE⟩
theorem within_any (n a b : Int) (w : World) :
    Calls Tryz.prog 97 #[.int .i64 n, .int .i64 a, .int .i64 b] w fun e w' => e = .returned (.bool (decide (a ≤ n) && decide (n ≤ b))) ∧ w = w' := by
  go_enter Tryz.func97, Tryz.ntmps97
  go_upto_region 1 with (fail)
  refine wp_region_P (fun w' => w = w') rfl ?_
  repeat
    first
    | (refine steps_and rfl rfl rfl rfl ?_; simp only [Act.put, List.setIfInBounds_toArray, List.set_cons_succ, List.set_cons_zero])
    | (refine steps_or rfl rfl rfl rfl ?_; simp only [Act.put, List.setIfInBounds_toArray, List.set_cons_succ, List.set_cons_zero])
    | (refine steps_skip rfl ?_; simp only [Act.put, List.setIfInBounds_toArray, List.set_cons_succ, List.set_cons_zero])
    | (refine steps_guard_and rfl rfl rfl rfl rfl ?_; simp only [Act.put, List.setIfInBounds_toArray, List.set_cons_succ, List.set_cons_zero])
    | (refine steps_guard (v := ?_) rfl rfl (fun hb w' hS => ?_) ?_; rotate_left; (focus (subst hS; unfold Gives; go_simp; first | exact is_mk rfl)); simp only [Act.put, List.setIfInBounds_toArray, List.set_cons_succ, List.set_cons_zero])
    | (refine steps_guard2 (v := ?_) rfl rfl rfl (fun hb1 hb w' hS => ?_) ?_; rotate_left; (focus (subst hS; unfold Gives; go_simp; first | exact is_mk rfl)); simp only [Act.put, List.setIfInBounds_toArray, List.set_cons_succ, List.set_cons_zero])
    | (refine steps_run (v := ?_) rfl (fun w' hS => ?_) ?_; rotate_left; (focus (subst hS; unfold Gives; go_simp; first | exact is_mk rfl)); simp only [Act.put, List.setIfInBounds_toArray, List.set_cons_succ, List.set_cons_zero])
  refine steps_end fun w' hE => ?_
  subst hE
  go_wp2_with fail
  go_ret
  exact ⟨rfl, rfl⟩
end Go.Proofs.YtmdmbdbbpdojnaaGreatDoor
namespace Go.Proofs.YtmdmbdbbpdojnaaGreatDoor
open Go.RowKit Nam Pol
attribute [local go_sem] gv_of

theorem strs_cells {w : World} {b off : Nat} {l : List ByteArray} (h : Strs w (some ⟨b, off, none⟩) l) : ∀ j, j < l.length → w.cell? ⟨b, off + j, none⟩ = some (.string (l.getD j ByteArray.empty)) := fun j hj => by
  obtain ⟨b', off', hab, h1, _⟩ := h j _ (List.getElem?_eq_getElem hj)
  cases hab
  rw [Nat.mul_one] at h1
  rw [h1, List.getD_eq_getElem?_getD, List.getElem?_eq_getElem hj]; rfl
theorem memB_containsS (l : List ByteArray) (x : ByteArray) : Lib.containsS l x = memB l x := by
  rw [Bool.eq_iff_iff, Lib.containsS_iff, memB_iff]
theorem limits_own (r : Rul) : (if r.allow then (decide (r.keyMin ≤ 2305843009213691579) && (decide (1 ≤ r.lifeMax) && decide (r.lifeMax ≤ 1000)) && (decide (0 ≤ r.most) && decide (r.most ≤ 1000))) &&
    (if r.most > 0 then decide (1 ≤ r.window) && decide (r.window ≤ 1099511627776) else r.window == 0) else r.keyMin == 0 && r.lifeMax == 0 && r.most == 0 && r.window == 0) = limitsB r := rfl
set_option maxRecDepth 100000 in
set_option maxHeartbeats 4000000 in
theorem formed_any (r : Rul) (a : Option Addr) (c : Nat) (w : World) (hnc : r.pats.length ≤ c) (hcm : c ≤ maxLen) (hl : Strs w a r.pats) (hs : r.name.size ≤ maxLen) :
    Calls Tryz.prog 65 #[rulV r a c] w (Ret (.bool (formB r)) w) := by
  have HS := Lib.hid hs
  unfold maxLen at hcm
  obtain ⟨n, hn⟩ : ∃ n, r.pats.length = n := ⟨_, rfl⟩
  have HN := Lib.hid hn; have HL := Lib.hid hl; clear hl
  unfold rulV
  rw [hn] at hnc ⊢
  clear hn hs
  go_enter Tryz.func65, Tryz.ntmps65
  go_wp2_with fail
  obtain ⟨W0, hW0⟩ : ∃ W0, w.alloc (Obj.cells #[.string r.name, .bool r.allow, .slice a n c, .int .u64 r.keyMin, .int .i64 r.lifeMax, .int .i64 r.most, .int .i64 r.window] 54) = W0 := ⟨_, rfl⟩
  have hE0 : Ext w W0 := by rw [← hW0]; exact ext_alloc (Below.refl _ _) _
  have c0 : W0.cell? ⟨w.heap.size, 0, none⟩ = some (.string r.name) := by rw [← hW0]; simp [go_sem]
  have c1 : W0.cell? ⟨w.heap.size, 1, none⟩ = some (.bool r.allow) := by rw [← hW0]; simp [go_sem]
  have c2 : W0.cell? ⟨w.heap.size, 2, none⟩ = some (.slice a n c) := by rw [← hW0]; simp [go_sem]
  have c3 : W0.cell? ⟨w.heap.size, 3, none⟩ = some (.int .u64 r.keyMin) := by rw [← hW0]; simp [go_sem]
  have c4 : W0.cell? ⟨w.heap.size, 4, none⟩ = some (.int .i64 r.lifeMax) := by rw [← hW0]; simp [go_sem]
  have c5 : W0.cell? ⟨w.heap.size, 5, none⟩ = some (.int .i64 r.most) := by rw [← hW0]; simp [go_sem]
  have c6 : W0.cell? ⟨w.heap.size, 6, none⟩ = some (.int .i64 r.window) := by rw [← hW0]; simp [go_sem]
  rw [hW0]
  have HE0 := Lib.hid hE0; have C0 := Lib.hid c0; have C1 := Lib.hid c1; have C2 := Lib.hid c2; have C3 := Lib.hid c3; have C4 := Lib.hid c4; have C5 := Lib.hid c5; have C6 := Lib.hid c6
  clear hW0 hE0 c0 c1 c2 c3 c4 c5 c6
  go_loopw [10] (fun i wr => ∃ k : Nat, k ≤ n ∧ i = .int .i64 k ∧ patsOk [] (r.pats.take k) = true ∧ Ext W0 wr) (fun i _ => n - (intOf i).toNat)
  case atStart => exact ⟨0, Nat.zero_le _, rfl, rfl, Below.refl _ _⟩
  case round =>
    obtain ⟨k, hk, rfl, hp, hEr⟩ := hrel
    have HP := Lib.hid hp; clear hp
    by_cases hlt : k < n
    · obtain ⟨p, hp⟩ := get_some HN.out hlt
      obtain ⟨b, off, rfl, d0, hps⟩ := (HL.out.ext (ext_trans HE0.out hEr)) k p hp
      rw [Nat.mul_one] at d0
      have c2 := ext_cell C2.out hEr
      have HT := Lib.hid (patsOk_take hp)
      have HLR : Hid (Strs wr (some ⟨b, off, none⟩) r.pats) := Lib.hid (HL.out.ext (ext_trans HE0.out hEr))
      have HER := Lib.hid hEr
      have hpn : p.size ≤ 9223372036854775807 := hps
      have hkc : k ≤ c := by omega
      clear hp hEr
      go_upto_region 4 with (fail)
      refine wp_region_P (fun w' => Ext wr w') (Below.refl _ _) ?_
      repeat
        first
        | (refine steps_and rfl rfl rfl rfl ?_; simp only [Act.put, List.setIfInBounds_toArray, List.set_cons_succ, List.set_cons_zero])
        | (refine steps_or rfl rfl rfl rfl ?_; simp only [Act.put, List.setIfInBounds_toArray, List.set_cons_succ, List.set_cons_zero])
        | (refine steps_skip rfl ?_; simp only [Act.put, List.setIfInBounds_toArray, List.set_cons_succ, List.set_cons_zero])
        | (refine steps_guard_and rfl rfl rfl rfl rfl ?_; simp only [Act.put, List.setIfInBounds_toArray, List.set_cons_succ, List.set_cons_zero])
        | (refine steps_guard (v := ?_) rfl rfl (fun hb w' hS => ?_) ?_; rotate_left; (focus (have e2 := ext_cell c2 hS; unfold Gives; go_simp; first | exact is_mk hS | (refine (Pattern_any _ _ hpn).mono ?_; rintro e w'' ⟨rfl, h2⟩; exact gave_mk (ext_trans hS h2)) | (refine (Tryz.slices_Contains_string b off k c r.pats p _ (by rw [HN.out]; omega) (by omega) (strs_cells (HLR.out.ext hS))).mono ?_; rintro e w'' ⟨rfl, rfl⟩; exact gave_mk hS))); simp only [Act.put, List.setIfInBounds_toArray, List.set_cons_succ, List.set_cons_zero])
        | (refine steps_guard2 (v := ?_) rfl rfl rfl (fun hb1 hb w' hS => ?_) ?_; rotate_left; (focus (have e2 := ext_cell c2 hS; unfold Gives; go_simp; first | exact is_mk hS | (refine (Pattern_any _ _ hpn).mono ?_; rintro e w'' ⟨rfl, h2⟩; exact gave_mk (ext_trans hS h2)) | (refine (Tryz.slices_Contains_string b off k c r.pats p _ (by rw [HN.out]; omega) (by omega) (strs_cells (HLR.out.ext hS))).mono ?_; rintro e w'' ⟨rfl, rfl⟩; exact gave_mk hS))); simp only [Act.put, List.setIfInBounds_toArray, List.set_cons_succ, List.set_cons_zero])
        | (refine steps_run (v := ?_) rfl (fun w' hS => ?_) ?_; rotate_left; (focus (have e2 := ext_cell c2 hS; unfold Gives; go_simp; first | exact is_mk hS | (refine (Pattern_any _ _ hpn).mono ?_; rintro e w'' ⟨rfl, h2⟩; exact gave_mk (ext_trans hS h2)) | (refine (Tryz.slices_Contains_string b off k c r.pats p _ (by rw [HN.out]; omega) (by omega) (strs_cells (HLR.out.ext hS))).mono ?_; rintro e w'' ⟨rfl, rfl⟩; exact gave_mk hS))); simp only [Act.put, List.setIfInBounds_toArray, List.set_cons_succ, List.set_cons_zero])
      refine steps_end fun w' hE' => ?_
      rw [memB_containsS]
      have HPK : Hid ((okOr 110 (pattern p.data.toList).2.2 != 0) = !patOk p) := Lib.hid (by unfold patOk; cases (pattern p.data.toList).2.2 <;> rfl)
      cases hq : ((okOr 110 (pattern p.data.toList).2.2 != 0) || memB (r.pats.take k) p)
      · have HQ := Lib.hid (show patsOk [] (r.pats.take (k + 1)) = true by
          rw [HT.out, HP.out]
          rw [HPK.out] at hq
          simp only [Bool.or_eq_false_iff, Bool.not_eq_false'] at hq
          rw [hq.1, hq.2]; rfl)
        clear hq
        go_wp2_with fail
        go_roundw
        case rel => exact ⟨k + 1, by omega, by go_num, HQ.out, ext_trans HER.out hE'⟩
        case measure => simp [intOf]; omega
      · have HQ := Lib.hid (show formB r = false by
          have : patsOk [] (r.pats.take (k + 1)) = false := by
            rw [HT.out, HP.out]
            rw [HPK.out] at hq
            simp only [Bool.or_eq_true, Bool.not_eq_true'] at hq
            rcases hq with h | h <;> rw [h] <;> simp
          unfold formB; rw [patsOk_false this]; simp)
        clear hq
        go_wp2_with fail
        all_goals
          go_ret
          exact ⟨ret_bool HQ.out.symm, ext_trans HE0.out (ext_trans HER.out hE')⟩
    · obtain rfl : k = n := by omega
      have hpo : patsOk [] r.pats = true := by have := HP.out; rwa [← HN.out, List.take_length] at this
      have HFB := Lib.hid (show formB r = (ruleName r.name.data.toList && (decide (1 ≤ (k : Int)) && decide ((k : Int) ≤ 8)) && limitsB r) by
        unfold formB; rw [hpo, HN.out, Bool.and_true, show decide (1 ≤ (k : Int)) = decide (1 ≤ k) from by congr 1; apply propext; omega, show decide ((k : Int) ≤ 8) = decide (k ≤ 8) from by congr 1; apply propext; omega])
      clear hpo
      have c0 := ext_cell C0.out hEr; have c1 := ext_cell C1.out hEr; have c2 := ext_cell C2.out hEr; have c3 := ext_cell C3.out hEr; have c4 := ext_cell C4.out hEr; have c5 := ext_cell C5.out hEr; have c6 := ext_cell C6.out hEr
      have HEW := Lib.hid (ext_trans HE0.out hEr); clear hEr
      have HLO := Lib.hid (limits_own r)
      go_upto_region 8 with (fail)
      refine wp_region_P (fun w' => w' = wr) rfl ?_
      repeat
        first
        | (refine steps_and rfl rfl rfl rfl ?_; simp only [Act.put, List.setIfInBounds_toArray, List.set_cons_succ, List.set_cons_zero])
        | (refine steps_or rfl rfl rfl rfl ?_; simp only [Act.put, List.setIfInBounds_toArray, List.set_cons_succ, List.set_cons_zero])
        | (refine steps_skip rfl ?_; simp only [Act.put, List.setIfInBounds_toArray, List.set_cons_succ, List.set_cons_zero])
        | (refine steps_guard_and rfl rfl rfl rfl rfl ?_; simp only [Act.put, List.setIfInBounds_toArray, List.set_cons_succ, List.set_cons_zero])
        | (refine steps_guard (v := ?_) rfl rfl (fun hb w' hS => ?_) ?_; rotate_left; (focus (subst hS; unfold Gives; go_simp; first | exact is_mk rfl | (refine (within_any _ _ _ _).mono ?_; rintro e w'' ⟨rfl, rfl⟩; exact gave_mk rfl))); simp only [Act.put, List.setIfInBounds_toArray, List.set_cons_succ, List.set_cons_zero])
        | (refine steps_guard2 (v := ?_) rfl rfl rfl (fun hb1 hb w' hS => ?_) ?_; rotate_left; (focus (subst hS; unfold Gives; go_simp; first | exact is_mk rfl | (refine (within_any _ _ _ _).mono ?_; rintro e w'' ⟨rfl, rfl⟩; exact gave_mk rfl))); simp only [Act.put, List.setIfInBounds_toArray, List.set_cons_succ, List.set_cons_zero])
        | (refine steps_run (v := ?_) rfl (fun w' hS => ?_) ?_; rotate_left; (focus (subst hS; unfold Gives; go_simp; first | exact is_mk rfl | (refine (within_any _ _ _ _).mono ?_; rintro e w'' ⟨rfl, rfl⟩; exact gave_mk rfl))); simp only [Act.put, List.setIfInBounds_toArray, List.set_cons_succ, List.set_cons_zero])
      refine steps_end fun w' hE' => ?_
      subst hE'
      by_cases hm : 0 < r.most
      · go_upto_region 10 with (fail)
        refine wp_region_P (fun x => x = w') rfl ?_
        repeat
          first
          | (refine steps_and rfl rfl rfl rfl ?_; simp only [Act.put, List.setIfInBounds_toArray, List.set_cons_succ, List.set_cons_zero])
          | (refine steps_or rfl rfl rfl rfl ?_; simp only [Act.put, List.setIfInBounds_toArray, List.set_cons_succ, List.set_cons_zero])
          | (refine steps_skip rfl ?_; simp only [Act.put, List.setIfInBounds_toArray, List.set_cons_succ, List.set_cons_zero])
          | (refine steps_guard_and rfl rfl rfl rfl rfl ?_; simp only [Act.put, List.setIfInBounds_toArray, List.set_cons_succ, List.set_cons_zero])
          | (refine steps_guard (v := ?_) rfl rfl (fun hb w' hS => ?_) ?_; rotate_left; (focus (subst hS; unfold Gives; go_simp; first | exact is_mk rfl | (refine (within_any _ _ _ _).mono ?_; rintro e w'' ⟨rfl, rfl⟩; exact gave_mk rfl))); simp only [Act.put, List.setIfInBounds_toArray, List.set_cons_succ, List.set_cons_zero])
          | (refine steps_guard2 (v := ?_) rfl rfl rfl (fun hb1 hb w' hS => ?_) ?_; rotate_left; (focus (subst hS; unfold Gives; go_simp; first | exact is_mk rfl | (refine (within_any _ _ _ _).mono ?_; rintro e w'' ⟨rfl, rfl⟩; exact gave_mk rfl))); simp only [Act.put, List.setIfInBounds_toArray, List.set_cons_succ, List.set_cons_zero])
          | (refine steps_run (v := ?_) rfl (fun w' hS => ?_) ?_; rotate_left; (focus (subst hS; unfold Gives; go_simp; first | exact is_mk rfl | (refine (within_any _ _ _ _).mono ?_; rintro e w'' ⟨rfl, rfl⟩; exact gave_mk rfl))); simp only [Act.put, List.setIfInBounds_toArray, List.set_cons_succ, List.set_cons_zero])
        refine steps_end fun x hx => ?_
        subst hx
        cases hal : r.allow
        · rw [hal] at c1
          have HLO : Hid ((r.keyMin == 0 && r.lifeMax == 0 && r.most == 0 && r.window == 0) = limitsB r) := Lib.hid (by rw [← HLO.out, hal]; rfl)
          clear hal
          go_upto_region 13 with (fail)
          refine wp_region_P (fun y => y = x) rfl ?_
          repeat
            first
            | (refine steps_and rfl rfl rfl rfl ?_; simp only [Act.put, List.setIfInBounds_toArray, List.set_cons_succ, List.set_cons_zero])
            | (refine steps_or rfl rfl rfl rfl ?_; simp only [Act.put, List.setIfInBounds_toArray, List.set_cons_succ, List.set_cons_zero])
            | (refine steps_skip rfl ?_; simp only [Act.put, List.setIfInBounds_toArray, List.set_cons_succ, List.set_cons_zero])
            | (refine steps_guard_and rfl rfl rfl rfl rfl ?_; simp only [Act.put, List.setIfInBounds_toArray, List.set_cons_succ, List.set_cons_zero])
            | (refine steps_guard (v := ?_) rfl rfl (fun hb w' hS => ?_) ?_; rotate_left; (focus (subst hS; unfold Gives; go_simp; first | exact is_mk rfl)); simp only [Act.put, List.setIfInBounds_toArray, List.set_cons_succ, List.set_cons_zero])
            | (refine steps_guard2 (v := ?_) rfl rfl rfl (fun hb1 hb w' hS => ?_) ?_; rotate_left; (focus (subst hS; unfold Gives; go_simp; first | exact is_mk rfl)); simp only [Act.put, List.setIfInBounds_toArray, List.set_cons_succ, List.set_cons_zero])
            | (refine steps_run (v := ?_) rfl (fun w' hS => ?_) ?_; rotate_left; (focus (subst hS; unfold Gives; go_simp; first | exact is_mk rfl)); simp only [Act.put, List.setIfInBounds_toArray, List.set_cons_succ, List.set_cons_zero])
          refine steps_end fun y hy => ?_
          subst hy
          go_upto_region 14 with (fail)
          refine wp_region_P (fun x => Ext y x) (Below.refl _ _) ?_
          repeat
            first
            | (refine steps_and rfl rfl rfl rfl ?_; simp only [Act.put, List.setIfInBounds_toArray, List.set_cons_succ, List.set_cons_zero])
            | (refine steps_or rfl rfl rfl rfl ?_; simp only [Act.put, List.setIfInBounds_toArray, List.set_cons_succ, List.set_cons_zero])
            | (refine steps_skip rfl ?_; simp only [Act.put, List.setIfInBounds_toArray, List.set_cons_succ, List.set_cons_zero])
            | (refine steps_guard_and rfl rfl rfl rfl rfl ?_; simp only [Act.put, List.setIfInBounds_toArray, List.set_cons_succ, List.set_cons_zero])
            | (refine steps_guard (v := ?_) rfl rfl (fun hb w' hS => ?_) ?_; rotate_left; (focus (have e0 := ext_cell c0 hS; have e2 := ext_cell c2 hS; unfold Gives; go_simp; first | exact is_mk hS | (refine (named_any _ _ HS.out).mono ?_; rintro e w'' ⟨rfl, h2⟩; exact gave_mk (ext_trans hS h2)) | (refine (within_any _ _ _ _).mono ?_; rintro e w'' ⟨rfl, rfl⟩; exact gave_mk hS))); simp only [Act.put, List.setIfInBounds_toArray, List.set_cons_succ, List.set_cons_zero])
            | (refine steps_guard2 (v := ?_) rfl rfl rfl (fun hb1 hb w' hS => ?_) ?_; rotate_left; (focus (have e0 := ext_cell c0 hS; have e2 := ext_cell c2 hS; unfold Gives; go_simp; first | exact is_mk hS | (refine (named_any _ _ HS.out).mono ?_; rintro e w'' ⟨rfl, h2⟩; exact gave_mk (ext_trans hS h2)) | (refine (within_any _ _ _ _).mono ?_; rintro e w'' ⟨rfl, rfl⟩; exact gave_mk hS))); simp only [Act.put, List.setIfInBounds_toArray, List.set_cons_succ, List.set_cons_zero])
            | (refine steps_run (v := ?_) rfl (fun w' hS => ?_) ?_; rotate_left; (focus (have e0 := ext_cell c0 hS; have e2 := ext_cell c2 hS; unfold Gives; go_simp; first | exact is_mk hS | (refine (named_any _ _ HS.out).mono ?_; rintro e w'' ⟨rfl, h2⟩; exact gave_mk (ext_trans hS h2)) | (refine (within_any _ _ _ _).mono ?_; rintro e w'' ⟨rfl, rfl⟩; exact gave_mk hS))); simp only [Act.put, List.setIfInBounds_toArray, List.set_cons_succ, List.set_cons_zero])
          refine steps_end fun x hy => ?_
          go_wp2_with fail
          go_ret
          exact ⟨ret_bool (by rw [HFB.out, ← HLO.out]), ext_trans HEW.out hy⟩
        · rw [hal] at c1
          have HLO := Lib.hid (show (decide (r.keyMin ≤ 2305843009213691579) && (decide (1 ≤ r.lifeMax) && decide (r.lifeMax ≤ 1000)) && (decide (0 ≤ r.most) && decide (r.most ≤ 1000)) && (decide (1 ≤ r.window) && decide (r.window ≤ 1099511627776))) = limitsB r by rw [← HLO.out, if_pos hal, if_pos (show r.most > 0 from hm)])
          clear hal
          go_upto_region 14 with (fail)
          refine wp_region_P (fun y => Ext x y) (Below.refl _ _) ?_
          repeat
            first
            | (refine steps_and rfl rfl rfl rfl ?_; simp only [Act.put, List.setIfInBounds_toArray, List.set_cons_succ, List.set_cons_zero])
            | (refine steps_or rfl rfl rfl rfl ?_; simp only [Act.put, List.setIfInBounds_toArray, List.set_cons_succ, List.set_cons_zero])
            | (refine steps_skip rfl ?_; simp only [Act.put, List.setIfInBounds_toArray, List.set_cons_succ, List.set_cons_zero])
            | (refine steps_guard_and rfl rfl rfl rfl rfl ?_; simp only [Act.put, List.setIfInBounds_toArray, List.set_cons_succ, List.set_cons_zero])
            | (refine steps_guard (v := ?_) rfl rfl (fun hb w' hS => ?_) ?_; rotate_left; (focus (have e0 := ext_cell c0 hS; have e2 := ext_cell c2 hS; unfold Gives; go_simp; first | exact is_mk hS | (refine (named_any _ _ HS.out).mono ?_; rintro e w'' ⟨rfl, h2⟩; exact gave_mk (ext_trans hS h2)) | (refine (within_any _ _ _ _).mono ?_; rintro e w'' ⟨rfl, rfl⟩; exact gave_mk hS))); simp only [Act.put, List.setIfInBounds_toArray, List.set_cons_succ, List.set_cons_zero])
            | (refine steps_guard2 (v := ?_) rfl rfl rfl (fun hb1 hb w' hS => ?_) ?_; rotate_left; (focus (have e0 := ext_cell c0 hS; have e2 := ext_cell c2 hS; unfold Gives; go_simp; first | exact is_mk hS | (refine (named_any _ _ HS.out).mono ?_; rintro e w'' ⟨rfl, h2⟩; exact gave_mk (ext_trans hS h2)) | (refine (within_any _ _ _ _).mono ?_; rintro e w'' ⟨rfl, rfl⟩; exact gave_mk hS))); simp only [Act.put, List.setIfInBounds_toArray, List.set_cons_succ, List.set_cons_zero])
            | (refine steps_run (v := ?_) rfl (fun w' hS => ?_) ?_; rotate_left; (focus (have e0 := ext_cell c0 hS; have e2 := ext_cell c2 hS; unfold Gives; go_simp; first | exact is_mk hS | (refine (named_any _ _ HS.out).mono ?_; rintro e w'' ⟨rfl, h2⟩; exact gave_mk (ext_trans hS h2)) | (refine (within_any _ _ _ _).mono ?_; rintro e w'' ⟨rfl, rfl⟩; exact gave_mk hS))); simp only [Act.put, List.setIfInBounds_toArray, List.set_cons_succ, List.set_cons_zero])
          refine steps_end fun y hy => ?_
          go_wp2_with fail
          go_ret
          exact ⟨ret_bool (by rw [HFB.out, ← HLO.out]), ext_trans HEW.out hy⟩
      · go_upto_region 11 with (fail)
        refine wp_region_P (fun x => x = w') rfl ?_
        repeat
          first
          | (refine steps_and rfl rfl rfl rfl ?_; simp only [Act.put, List.setIfInBounds_toArray, List.set_cons_succ, List.set_cons_zero])
          | (refine steps_or rfl rfl rfl rfl ?_; simp only [Act.put, List.setIfInBounds_toArray, List.set_cons_succ, List.set_cons_zero])
          | (refine steps_skip rfl ?_; simp only [Act.put, List.setIfInBounds_toArray, List.set_cons_succ, List.set_cons_zero])
          | (refine steps_guard_and rfl rfl rfl rfl rfl ?_; simp only [Act.put, List.setIfInBounds_toArray, List.set_cons_succ, List.set_cons_zero])
          | (refine steps_guard (v := ?_) rfl rfl (fun hb w' hS => ?_) ?_; rotate_left; (focus (subst hS; unfold Gives; go_simp; first | exact is_mk rfl)); simp only [Act.put, List.setIfInBounds_toArray, List.set_cons_succ, List.set_cons_zero])
          | (refine steps_guard2 (v := ?_) rfl rfl rfl (fun hb1 hb w' hS => ?_) ?_; rotate_left; (focus (subst hS; unfold Gives; go_simp; first | exact is_mk rfl)); simp only [Act.put, List.setIfInBounds_toArray, List.set_cons_succ, List.set_cons_zero])
          | (refine steps_run (v := ?_) rfl (fun w' hS => ?_) ?_; rotate_left; (focus (subst hS; unfold Gives; go_simp; first | exact is_mk rfl)); simp only [Act.put, List.setIfInBounds_toArray, List.set_cons_succ, List.set_cons_zero])
        refine steps_end fun x hx => ?_
        subst hx
        cases hal : r.allow
        · rw [hal] at c1
          have HLO : Hid ((r.keyMin == 0 && r.lifeMax == 0 && r.most == 0 && r.window == 0) = limitsB r) := Lib.hid (by rw [← HLO.out, hal]; rfl)
          clear hal
          go_upto_region 13 with (fail)
          refine wp_region_P (fun y => y = x) rfl ?_
          repeat
            first
            | (refine steps_and rfl rfl rfl rfl ?_; simp only [Act.put, List.setIfInBounds_toArray, List.set_cons_succ, List.set_cons_zero])
            | (refine steps_or rfl rfl rfl rfl ?_; simp only [Act.put, List.setIfInBounds_toArray, List.set_cons_succ, List.set_cons_zero])
            | (refine steps_skip rfl ?_; simp only [Act.put, List.setIfInBounds_toArray, List.set_cons_succ, List.set_cons_zero])
            | (refine steps_guard_and rfl rfl rfl rfl rfl ?_; simp only [Act.put, List.setIfInBounds_toArray, List.set_cons_succ, List.set_cons_zero])
            | (refine steps_guard (v := ?_) rfl rfl (fun hb w' hS => ?_) ?_; rotate_left; (focus (subst hS; unfold Gives; go_simp; first | exact is_mk rfl)); simp only [Act.put, List.setIfInBounds_toArray, List.set_cons_succ, List.set_cons_zero])
            | (refine steps_guard2 (v := ?_) rfl rfl rfl (fun hb1 hb w' hS => ?_) ?_; rotate_left; (focus (subst hS; unfold Gives; go_simp; first | exact is_mk rfl)); simp only [Act.put, List.setIfInBounds_toArray, List.set_cons_succ, List.set_cons_zero])
            | (refine steps_run (v := ?_) rfl (fun w' hS => ?_) ?_; rotate_left; (focus (subst hS; unfold Gives; go_simp; first | exact is_mk rfl)); simp only [Act.put, List.setIfInBounds_toArray, List.set_cons_succ, List.set_cons_zero])
          refine steps_end fun y hy => ?_
          subst hy
          go_upto_region 14 with (fail)
          refine wp_region_P (fun x => Ext y x) (Below.refl _ _) ?_
          repeat
            first
            | (refine steps_and rfl rfl rfl rfl ?_; simp only [Act.put, List.setIfInBounds_toArray, List.set_cons_succ, List.set_cons_zero])
            | (refine steps_or rfl rfl rfl rfl ?_; simp only [Act.put, List.setIfInBounds_toArray, List.set_cons_succ, List.set_cons_zero])
            | (refine steps_skip rfl ?_; simp only [Act.put, List.setIfInBounds_toArray, List.set_cons_succ, List.set_cons_zero])
            | (refine steps_guard_and rfl rfl rfl rfl rfl ?_; simp only [Act.put, List.setIfInBounds_toArray, List.set_cons_succ, List.set_cons_zero])
            | (refine steps_guard (v := ?_) rfl rfl (fun hb w' hS => ?_) ?_; rotate_left; (focus (have e0 := ext_cell c0 hS; have e2 := ext_cell c2 hS; unfold Gives; go_simp; first | exact is_mk hS | (refine (named_any _ _ HS.out).mono ?_; rintro e w'' ⟨rfl, h2⟩; exact gave_mk (ext_trans hS h2)) | (refine (within_any _ _ _ _).mono ?_; rintro e w'' ⟨rfl, rfl⟩; exact gave_mk hS))); simp only [Act.put, List.setIfInBounds_toArray, List.set_cons_succ, List.set_cons_zero])
            | (refine steps_guard2 (v := ?_) rfl rfl rfl (fun hb1 hb w' hS => ?_) ?_; rotate_left; (focus (have e0 := ext_cell c0 hS; have e2 := ext_cell c2 hS; unfold Gives; go_simp; first | exact is_mk hS | (refine (named_any _ _ HS.out).mono ?_; rintro e w'' ⟨rfl, h2⟩; exact gave_mk (ext_trans hS h2)) | (refine (within_any _ _ _ _).mono ?_; rintro e w'' ⟨rfl, rfl⟩; exact gave_mk hS))); simp only [Act.put, List.setIfInBounds_toArray, List.set_cons_succ, List.set_cons_zero])
            | (refine steps_run (v := ?_) rfl (fun w' hS => ?_) ?_; rotate_left; (focus (have e0 := ext_cell c0 hS; have e2 := ext_cell c2 hS; unfold Gives; go_simp; first | exact is_mk hS | (refine (named_any _ _ HS.out).mono ?_; rintro e w'' ⟨rfl, h2⟩; exact gave_mk (ext_trans hS h2)) | (refine (within_any _ _ _ _).mono ?_; rintro e w'' ⟨rfl, rfl⟩; exact gave_mk hS))); simp only [Act.put, List.setIfInBounds_toArray, List.set_cons_succ, List.set_cons_zero])
          refine steps_end fun x hy => ?_
          go_wp2_with fail
          go_ret
          exact ⟨ret_bool (by rw [HFB.out, ← HLO.out]), ext_trans HEW.out hy⟩
        · rw [hal] at c1
          have HLO := Lib.hid (show (decide (r.keyMin ≤ 2305843009213691579) && (decide (1 ≤ r.lifeMax) && decide (r.lifeMax ≤ 1000)) && (decide (0 ≤ r.most) && decide (r.most ≤ 1000)) && r.window == 0) = limitsB r by rw [← HLO.out, if_pos hal, if_neg (show ¬ r.most > 0 from hm)])
          clear hal
          go_upto_region 14 with (fail)
          refine wp_region_P (fun y => Ext x y) (Below.refl _ _) ?_
          repeat
            first
            | (refine steps_and rfl rfl rfl rfl ?_; simp only [Act.put, List.setIfInBounds_toArray, List.set_cons_succ, List.set_cons_zero])
            | (refine steps_or rfl rfl rfl rfl ?_; simp only [Act.put, List.setIfInBounds_toArray, List.set_cons_succ, List.set_cons_zero])
            | (refine steps_skip rfl ?_; simp only [Act.put, List.setIfInBounds_toArray, List.set_cons_succ, List.set_cons_zero])
            | (refine steps_guard_and rfl rfl rfl rfl rfl ?_; simp only [Act.put, List.setIfInBounds_toArray, List.set_cons_succ, List.set_cons_zero])
            | (refine steps_guard (v := ?_) rfl rfl (fun hb w' hS => ?_) ?_; rotate_left; (focus (have e0 := ext_cell c0 hS; have e2 := ext_cell c2 hS; unfold Gives; go_simp; first | exact is_mk hS | (refine (named_any _ _ HS.out).mono ?_; rintro e w'' ⟨rfl, h2⟩; exact gave_mk (ext_trans hS h2)) | (refine (within_any _ _ _ _).mono ?_; rintro e w'' ⟨rfl, rfl⟩; exact gave_mk hS))); simp only [Act.put, List.setIfInBounds_toArray, List.set_cons_succ, List.set_cons_zero])
            | (refine steps_guard2 (v := ?_) rfl rfl rfl (fun hb1 hb w' hS => ?_) ?_; rotate_left; (focus (have e0 := ext_cell c0 hS; have e2 := ext_cell c2 hS; unfold Gives; go_simp; first | exact is_mk hS | (refine (named_any _ _ HS.out).mono ?_; rintro e w'' ⟨rfl, h2⟩; exact gave_mk (ext_trans hS h2)) | (refine (within_any _ _ _ _).mono ?_; rintro e w'' ⟨rfl, rfl⟩; exact gave_mk hS))); simp only [Act.put, List.setIfInBounds_toArray, List.set_cons_succ, List.set_cons_zero])
            | (refine steps_run (v := ?_) rfl (fun w' hS => ?_) ?_; rotate_left; (focus (have e0 := ext_cell c0 hS; have e2 := ext_cell c2 hS; unfold Gives; go_simp; first | exact is_mk hS | (refine (named_any _ _ HS.out).mono ?_; rintro e w'' ⟨rfl, h2⟩; exact gave_mk (ext_trans hS h2)) | (refine (within_any _ _ _ _).mono ?_; rintro e w'' ⟨rfl, rfl⟩; exact gave_mk hS))); simp only [Act.put, List.setIfInBounds_toArray, List.set_cons_succ, List.set_cons_zero])
          refine steps_end fun y hy => ?_
          go_wp2_with fail
          go_ret
          exact ⟨ret_bool (by rw [HFB.out, ← HLO.out]), ext_trans HEW.out hy⟩
end Go.Proofs.YtmdmbdbbpdojnaaGreatDoor
namespace Go.Proofs.YtmdmbdbbpdojnaaGreatDoor
open Go.RowKit Go.Maps
open Go.ChangeMaps (setBlock heap_setBlock_same heap_setBlock_other)

/-- How keys of a plain type stand as values: read as keys, apart where they are. -/
structure KEnc {K : Type} (P : Program) (kt : TypeId) (enc : K → Value) (Ok : K → Prop) : Prop where
  keyed : Keyed P kt
  key : ∀ k, Ok k → ∃ l, keyOf P kt (enc k) = some l
  inj : ∀ a b, enc a = enc b → a = b
section
variable {K : Type} [DecidableEq K]
/-- What stands at a key. -/
def look : List (K × Value) → K → Option Value
  | [], _ => none
  | p :: m, k => if p.1 = k then some p.2 else look m k
/-- The list behind a store. -/
def mput : List (K × Value) → K → Value → List (K × Value)
  | [], k, v => [(k, v)]
  | p :: m, k, v => if p.1 = k then (k, v) :: m else p :: mput m k v
theorem look_none {m : List (K × Value)} {k : K} : look m k = none ↔ ∀ p ∈ m, p.1 ≠ k := by
  induction m with
  | nil => simp [look]
  | cons p m ih =>
    unfold look
    split
    · rename_i h; simp [h]
    · rename_i h; rw [ih]; simp [h]
theorem look_at {m : List (K × Value)} (hnd : m.Pairwise fun p q => p.1 ≠ q.1) : ∀ {j : Nat} {p : K × Value}, m[j]? = some p → look m p.1 = some p.2 := by
  induction m with
  | nil => intro j p h; simp at h
  | cons q m ih =>
    obtain ⟨h1, h2⟩ := List.pairwise_cons.1 hnd
    intro j p h
    cases j with
    | zero => simp at h; subst h; simp [look]
    | succ j =>
      have hm : m[j]? = some p := by simpa using h
      have hne := h1 p (List.mem_of_getElem? hm)
      simp [look, hne, ih h2 hm]
theorem look_mput (m : List (K × Value)) (k : K) (v : Value) (k' : K) : look (mput m k v) k' = if k = k' then some v else look m k' := by
  induction m with
  | nil => simp [mput, look]
  | cons p m ih =>
    unfold mput
    by_cases h : p.1 = k
    · rw [if_pos h]; subst h
      by_cases h2 : p.1 = k' <;> simp [look, h2]
    · rw [if_neg h]
      by_cases h2 : p.1 = k'
      · have : ¬ k = k' := fun e => h (h2.trans e.symm)
        simp [look, h2, this]
      · simp [look, h2, ih]
theorem mput_new {m : List (K × Value)} {k : K} (h : look m k = none) (v : Value) : mput m k v = m ++ [(k, v)] := by
  induction m with
  | nil => rfl
  | cons p m ih =>
    unfold look at h
    split at h
    · cases h
    · rename_i hp
      unfold mput; rw [if_neg hp, ih h]; rfl
theorem mput_at {m : List (K × Value)} (hnd : m.Pairwise fun p q => p.1 ≠ q.1) : ∀ {j : Nat} {p : K × Value} (v : Value), m[j]? = some p → mput m p.1 v = m.set j (p.1, v) := by
  induction m with
  | nil => intro j p v h; simp at h
  | cons q m ih =>
    obtain ⟨h1, h2⟩ := List.pairwise_cons.1 hnd
    intro j p v h
    cases j with
    | zero => simp at h; subst h; simp [mput]
    | succ j =>
      have hm : m[j]? = some p := by simpa using h
      have hne := h1 p (List.mem_of_getElem? hm)
      unfold mput
      rw [if_neg hne, ih h2 v hm]; rfl
theorem mput_keys (m : List (K × Value)) (k : K) (v : Value) : ∀ q ∈ mput m k v, q.1 = k ∨ q ∈ m := by
  induction m with
  | nil => intro q h; simp [mput] at h; simp [h]
  | cons p m ih =>
    intro q h
    unfold mput at h
    split at h
    · rcases List.mem_cons.1 h with rfl | h
      · simp
      · right; simp [h]
    · rcases List.mem_cons.1 h with rfl | h
      · right; simp
      · rcases ih q h with h | h
        · exact .inl h
        · right; simp [h]
theorem mput_nodup {m : List (K × Value)} (hnd : m.Pairwise fun p q => p.1 ≠ q.1) (k : K) (v : Value) : (mput m k v).Pairwise fun p q => p.1 ≠ q.1 := by
  induction m with
  | nil => simp [mput]
  | cons p m ih =>
    obtain ⟨h1, h2⟩ := List.pairwise_cons.1 hnd
    unfold mput
    split
    · rename_i h; subst h; exact List.pairwise_cons.2 ⟨h1, h2⟩
    · rename_i h
      refine List.pairwise_cons.2 ⟨fun q hq => ?_, ih h2⟩
      rcases mput_keys m k v q hq with e | hq
      · rw [e]; exact h
      · exact h1 q hq
theorem mput_length (m : List (K × Value)) (k : K) (v : Value) : (mput m k v).length = if (look m k).isSome then m.length else m.length + 1 := by
  induction m with
  | nil => simp [mput, look]
  | cons p m ih =>
    unfold mput look
    by_cases h : p.1 = k
    · simp [h]
    · simp only [h, if_false, List.length_cons, ih]
      split <;> rfl
/-- Block b is a map that holds m. -/
structure MapIs (P : Program) (kt : TypeId) (enc : K → Value) (Ok : K → Prop) (w : World) (b : Nat) (m : List (K × Value)) : Prop where
  heap : ∃ es clock, w.heap[b]? = some (.map es clock) ∧ es.toList.map (fun e => (e.key, e.val)) = m.map (fun p => (enc p.1, p.2))
  ok : ∀ p ∈ m, Ok p.1
  apart : m.Pairwise fun p q => p.1 ≠ q.1
variable {P : Program} {kt et mt : TypeId} {enc : K → Value} {Ok : K → Prop} {w : World} {b : Nat} {m : List (K × Value)}
omit [DecidableEq K] in
theorem MapIs.made (P : Program) (kt : TypeId) (enc : K → Value) (Ok : K → Prop) (w : World) : MapIs P kt enc Ok (w.alloc (.map #[] 0)) w.heap.size [] :=
  ⟨⟨#[], 0, by have := World.alloc_heap_new w (.map #[] 0); exact this, rfl⟩, by simp, List.Pairwise.nil⟩
omit [DecidableEq K] in
theorem MapIs.lt (h : MapIs P kt enc Ok w b m) : b < w.heap.size := by
  obtain ⟨es, clock, hb, _⟩ := h.heap
  exact (Array.getElem?_eq_some_iff.1 hb).1
omit [DecidableEq K] in
theorem MapIs.of_block {w' : World} (h : MapIs P kt enc Ok w b m) (hb : w'.heap[b]? = w.heap[b]?) : MapIs P kt enc Ok w' b m := by
  obtain ⟨es, clock, h1, h2⟩ := h.heap
  exact ⟨⟨es, clock, hb.trans h1, h2⟩, h.ok, h.apart⟩
omit [DecidableEq K] in
theorem MapIs.fr {S : Nat → Prop} {w' : World} (h : MapIs P kt enc Ok w b m) (hf : Fr S w w') (hs : ¬ S b) : MapIs P kt enc Ok w' b m := h.of_block (hf.block b h.lt hs)
omit [DecidableEq K] in
theorem MapIs.ext {w' : World} (h : MapIs P kt enc Ok w b m) (hE : Ext w w') : MapIs P kt enc Ok w' b m := h.of_block (hE.block b h.lt)
theorem MapIs.find (h : MapIs P kt enc Ok w b m) (E : KEnc P kt enc Ok) {k : K} (hk : Ok k) : ∃ es clock, w.heap[b]? = some (.map es clock) ∧ es.toList.map (fun e => (e.key, e.val)) = m.map (fun p => (enc p.1, p.2)) ∧
    ((look m k = none ∧ (Instr.findKey kt (enc k) es.toList).run P w = .ok none w) ∨
      ∃ j e v, look m k = some v ∧ e.val = v ∧ e.key = enc k ∧ es.toList[j]? = some e ∧ m[j]? = some (k, v) ∧ (Instr.findKey kt (enc k) es.toList).run P w = .ok (some (j, v)) w) := by
  obtain ⟨es, clock, hb, hes⟩ := h.heap
  refine ⟨es, clock, hb, hes, ?_⟩
  obtain ⟨l, hl⟩ := E.key k hk
  have back : ∀ (j : Nat) (e : MapEntry), es.toList[j]? = some e → ∃ p, m[j]? = some p ∧ e.key = enc p.1 ∧ e.val = p.2 := fun j e he => by
    have := congrArg (fun l => l[j]?) hes
    simp only [List.getElem?_map, he, Option.map_some] at this
    cases hm : m[j]? with
    | none => rw [hm] at this; simp at this
    | some p => rw [hm] at this; simp at this; exact ⟨p, rfl, this.1, this.2⟩
  have hks : ∀ e ∈ es.toList, ∃ l, keyOf P kt e.key = some l := fun e he => by
    obtain ⟨j, hj, rfl⟩ := List.getElem_of_mem he
    obtain ⟨p, hp, h1, _⟩ := back j _ (List.getElem?_eq_getElem hj)
    rw [h1]; exact E.key _ (h.ok p (List.mem_of_getElem? hp))
  rcases E.keyed.find w hl es.toList hks with ⟨h1, h2⟩ | ⟨j, e, h1, h2, h3⟩
  · refine .inl ⟨look_none.2 (fun p hp hpk => ?_), h1⟩
    obtain ⟨j, hj, rfl⟩ := List.getElem_of_mem hp
    have := congrArg (fun l => l[j]?) hes
    simp only [List.getElem?_map, List.getElem?_eq_getElem hj, Option.map_some] at this
    cases he : es.toList[j]? with
    | none => rw [he] at this; simp at this
    | some e =>
      rw [he] at this; simp at this
      exact h2 e (List.mem_of_getElem? he) (by rw [this.1, hpk])
  · obtain ⟨p, hp, h4, h5⟩ := back j e h2
    have hpk : p.1 = k := E.inj _ _ (by rw [← h4, h3])
    subst hpk
    exact .inr ⟨j, e, p.2, look_at h.apart hp, h5, h3, h2, hp, by rw [h1, h5]⟩
/-- 'm[k]'. -/
theorem MapIs.run_lookup (h : MapIs P kt enc Ok w b m) (E : KEnc P kt enc Ok) (ht : P.underlying mt = some (.map kt et)) {z : Value} (hz : (zeroValue et).run P w = .ok z w) {k : K} (hk : Ok k) :
    (Instr.lookup mt (.map (some b)) (enc k) false).run P w = .ok ((look m k).getD z) w := by
  obtain ⟨es, clock, hb, hes, hf⟩ := h.find E hk
  obtain ⟨l, hl⟩ := E.key k hk
  rcases hf with ⟨h1, h2⟩ | ⟨j, e, v, h1, _, _, _, _, h2⟩
  · simp [Instr.lookup, run_underlying ht, MapKept.run_getObj_map hb, E.keyed.check w _ hl, h2, h1, hz, Result.andThen]
  · simp [Instr.lookup, run_underlying ht, MapKept.run_getObj_map hb, E.keyed.check w _ hl, h2, h1, Result.andThen]
/-- 'v, ok := m[k]'. -/
theorem MapIs.run_lookup_ok (h : MapIs P kt enc Ok w b m) (E : KEnc P kt enc Ok) (ht : P.underlying mt = some (.map kt et)) {z : Value} (hz : (zeroValue et).run P w = .ok z w) {k : K} (hk : Ok k) :
    (Instr.lookup mt (.map (some b)) (enc k) true).run P w = .ok (.tuple #[(look m k).getD z, .bool (look m k).isSome]) w := by
  obtain ⟨es, clock, hb, hes, hf⟩ := h.find E hk
  obtain ⟨l, hl⟩ := E.key k hk
  rcases hf with ⟨h1, h2⟩ | ⟨j, e, v, h1, _, _, _, _, h2⟩
  · simp [Instr.lookup, run_underlying ht, MapKept.run_getObj_map hb, E.keyed.check w _ hl, h2, h1, hz, Result.andThen]
  · simp [Instr.lookup, run_underlying ht, MapKept.run_getObj_map hb, E.keyed.check w _ hl, h2, h1, Result.andThen]
theorem fr_setBlock {w : World} {b : Nat} {es : Array MapEntry} {clock : Nat} (hb : w.heap[b]? = some (.map es clock)) (o : Obj) : Fr (fun k => k = b) w (setBlock w b o) :=
  ⟨rfl, rfl, rfl, by simp [setBlock], fun i _ hi => heap_setBlock_other hb _ hi⟩
/-- 'm[k] = v'. -/
theorem MapIs.run_update (h : MapIs P kt enc Ok w b m) (E : KEnc P kt enc Ok) (ht : P.underlying mt = some (.map kt et)) {k : K} (hk : Ok k) (v : Value) :
    ∃ w', (Instr.mapUpdate mt (.map (some b)) (enc k) v).run P w = .ok () w' ∧ MapIs P kt enc Ok w' b (mput m k v) ∧ Fr (fun k => k = b) w w' ∧ w'.heap.size = w.heap.size := by
  obtain ⟨es, clock, hb, hes, hf⟩ := h.find E hk
  obtain ⟨l, hl⟩ := E.key k hk
  have hok : ∀ p ∈ mput m k v, Ok p.1 := fun p hp => by
    rcases mput_keys m k v p hp with e | hp
    · rw [e]; exact hk
    · exact h.ok p hp
  rcases hf with ⟨h1, h2⟩ | ⟨j, e, u, h1, h3, h4, h5, h6, h2⟩
  · refine ⟨setBlock w b (.map (es.push ⟨enc k, v, clock⟩) (clock + 1)), ?_, ⟨⟨_, _, heap_setBlock_same hb _, ?_⟩, hok, mput_nodup h.apart k v⟩, fr_setBlock hb _, by simp [setBlock]⟩
    · simp [Instr.mapUpdate, run_underlying ht, MapKept.run_getObj_map hb, E.keyed.check w false hl, h2, MapKept.run_setObj_map _ hb, Result.andThen, setBlock]
    · rw [mput_new h1]
      simp [hes]
  · have hj : es[j]? = some e := by simpa using h5
    refine ⟨setBlock w b (.map (es.modify j (fun e' => { e' with key := enc k, val := v })) clock), ?_, ⟨⟨_, _, heap_setBlock_same hb _, ?_⟩, hok, mput_nodup h.apart k v⟩, fr_setBlock hb _, by simp [setBlock]⟩
    · simp [Instr.mapUpdate, run_underlying ht, MapKept.run_getObj_map hb, E.keyed.check w false hl, h2, hj, h4, E.keyed.stays w hl, MapKept.run_setObj_map _ hb, Result.andThen, setBlock]
    · rw [mput_at h.apart (p := (k, u)) v h6, Array.toList_modify, ChangeMaps.modify_eq_set _ _ _ _ h5, List.map_set, List.map_set, hes]
omit [DecidableEq K] in
/-- 'len(m)'. -/
theorem MapIs.run_len (h : MapIs P kt enc Ok w b m) (ht : P.underlying mt = some (.map kt et)) (ty : TypeId) : (Builtin.len_ #[mt] ty #[.map (some b)]).run P w = .ok (.int .i64 m.length) w := by
  obtain ⟨es, clock, hb, hes⟩ := h.heap
  have hl : es.size = m.length := by have := congrArg List.length hes; simpa using this
  simp [Builtin.len_, run_underlying ht, MapKept.run_getObj_map hb, Result.andThen, hl, goInt]
variable {ops : Array Oper} {rest : List Oper} {o : Oper} {a : Act} {Q : Exit → Act → World → Prop}
theorem wpList_mapUpdate_is (hg : o.guard = none) (mo x v : Operand) (t : TypeId) (hop : o.op = Op.mapUpdate t mo x v) (E : KEnc P kt enc Ok) (ht : P.underlying t = some (.map kt et))
    (hm : a.eval mo = .map (some b)) (h : MapIs P kt enc Ok w b m) (k : K) (val : Value) (hx : a.eval x = enc k) (hv : a.eval v = val) (hk : Ok k)
    (hK : ∀ w', MapIs P kt enc Ok w' b (mput m k val) → Fr (fun k => k = b) w w' → w'.heap.size = w.heap.size → wpList P ops Q rest (a.put o.dst undef) w') :
    wpList P ops Q (o :: rest) a w := by
  refine wpList_plain hg fun K' hK' => ?_
  obtain ⟨w', hrun, r1, r2, r3⟩ := h.run_update E ht hk val
  unfold Oper.wp
  simp [execOp, hop, hm, hx, hv, hrun, Result.andThen]
  exact hK' _ _ (hK w' r1 r2 r3)
omit [DecidableEq K] in
theorem wpList_len_is (hg : o.guard = none) (mo : Operand) (t : TypeId) (hop : o.op = Op.call { callee := Callee.builtin Builtin.len, args := #[mo], argTypes := #[t] }) (ht : P.underlying t = some (.map kt et))
    (hm : a.eval mo = .map (some b)) (h : MapIs P kt enc Ok w b m) (hK : wpList P ops Q rest (a.put o.dst (.int .i64 m.length)) w) :
    wpList P ops Q (o :: rest) a w := by
  refine wpList_plain hg fun K' hK' => ?_
  unfold Oper.wp
  simp [execOp, hop, resolve, invoke, builtin, hm, h.run_len ht o.type, Result.andThen]
  exact hK' _ _ hK
end
/-- Strings as keys. -/
theorem strKEnc {P : Program} {kt : TypeId} (hk : P.underlying kt = some .string) : KEnc P kt Value.string (fun s : ByteArray => s.size ≤ maxLen) where
  keyed := string_keyed hk
  key := fun s hs => ⟨.string s.data.toList, by simp [keyOf, hk, mapKey, hs]⟩
  inj := fun a b h => by cases h; rfl
/-- Integers as keys. -/
theorem intKEnc {P : Program} {kt : TypeId} {q : IntKind} (hk : P.underlying kt = some (.int q)) : KEnc P kt (Value.int q) (fun n : Int => (Lit.int q n).wf = true) where
  keyed := int_keyed hk
  key := fun n hn => ⟨_, keyOf_int_mk hk hn⟩
  inj := fun a b h => by cases h; rfl
end Go.Proofs.YtmdmbdbbpdojnaaGreatDoor
