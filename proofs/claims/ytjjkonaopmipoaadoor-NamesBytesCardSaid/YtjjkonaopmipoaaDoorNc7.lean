/- The law NamesBytes: its walk. -/
import Derived.Test.YtjjkonaopmipoaaDoorNc6
import Derived.Test.YtjjkonaopmipoaaDoorNcS
import Derived.Laws.IdiomStrings
import Derived.Laws.BitsLemmas
import Derived.OpenShut
namespace Go.Proofs.YtjjkonaopmipoaaDoor
open Go.RowKit Nam
attribute [local go_sem] okOr_true okOr_false

theorem and_mask (i : Int) : 0 ≤ bits .and .i64 i 65535 ∧ bits .and .i64 i 65535 ≤ 65535 := by
  have h : (BitVec.ofInt 64 i &&& BitVec.ofInt 64 65535).toNat ≤ 65535 := by
    rw [BitVec.toNat_and]
    exact Nat.and_le_right
  have e : bits .and .i64 i 65535 = IntKind.i64.wrap ((BitVec.ofInt 64 i &&& BitVec.ofInt 64 65535).toNat : Int) := rfl
  rw [e, IntKind.wrap_i64]
  omega
theorem place_of (i : Int) {n : Nat} (hn : 0 < n) : ∃ k : Nat, k < n ∧ (bits .and .i64 i 65535).tmod (n : Int) = (k : Int) := by
  obtain ⟨h1, _⟩ := and_mask i
  obtain ⟨m, hm⟩ := Int.eq_ofNat_of_zero_le h1
  rw [hm]
  exact ⟨m % n, Nat.mod_lt _ hn, by rw [← Int.ofNat_tmod]⟩
/-- The block of the bytes, when it is new. -/
theorem bytes_new (w1 : World) (s : ByteArray) (cap : Nat) (t : TypeId) : ∀ j (hj : j < s.size), ((w1.alloc (.cells (bytesRow s cap) t ((bytesRow s cap).size, (bytesRow s cap).size + 1))).drew).cell? ⟨w1.heap.size, j, none⟩ = some (.int .u8 (s[j].toNat : Int)) := by
  intro j hj
  show (w1.alloc _).cell? _ = _
  rw [World.cell?_alloc_mark]
  exact bytesRow_at s cap j hj
theorem bytes_fz (w1 : World) (s : ByteArray) (cap : Nat) (t : TypeId) : ∀ j, j < s.size → ((w1.alloc (.cells (bytesRow s cap) t ((bytesRow s cap).size, (bytesRow s cap).size + 1))).drew).frozen? ⟨w1.heap.size, j, none⟩ = false := by
  intro j hj
  show (w1.alloc _).frozen? _ = _
  rw [World.frozen?_alloc_mark]
  have : s.size ≤ (bytesRow s cap).size := by
    unfold bytesRow; rw [Array.size_append, Array.size_map]; exact Nat.le_add_right _ _
  simp; omega
theorem byte_of {b : Int} (hb : (Lit.int .u8 b).wf = true) : ∃ c : UInt8, (c.toNat : Int) = b := by
  obtain ⟨h1, h2⟩ := bounds_u8 hb
  obtain ⟨m, rfl⟩ := Int.eq_ofNat_of_zero_le h1
  refine ⟨UInt8.ofNat m, ?_⟩
  have : m < 256 := by omega
  simp; omega
/-- The bytes with one put in. -/
theorem bytes_set {wA : World} {g k : Nat} {s : ByteArray} {c : UInt8} (h : ∀ j (hj : j < s.size), wA.cell? ⟨g, j, none⟩ = some (.int .u8 (s[j].toNat : Int))) (hk : k < s.size) :
    ∀ j (hj : j < (s.data.toList.set k c).length), (wA.setCell ⟨g, k, none⟩ (.int .u8 (c.toNat : Int))).cell? ⟨g, j, none⟩ = some (.int .u8 ((s.data.toList.set k c)[j].toNat : Int)) := by
  intro j hj
  have hj' : j < s.size := by rw [List.length_set, ← Lib.size_eq] at hj; exact hj
  by_cases e : k = j
  · subst e
    rw [World.cell?_setCell_same (h := h k hk)]
    simp
  · rw [World.cell?_setCell_other (h := by intro h0; injection h0 with _ h1 _; exact e h1), h j hj']
    rw [List.getElem_set_ne e]
    rfl
set_option maxRecDepth 100000 in
set_option maxHeartbeats 1000000 in
theorem NamesBytes_any (s : ByteArray) (i b : Int) (w : World) (hw : Env w) (hs : s.size ≤ 9223372036854775807) (_hi : (Lit.int .i64 i).wf = true) (hb : (Lit.int .u8 b).wf = true) :
    Calls Tryd.prog 12 #[.string s, .int .i64 i, .int .u8 b] w (Ret (.bool true) w) := by
  have HW := Lib.hid hw; clear hw
  have hE : Ext w w := Below.refl _ _
  by_cases hl : 300 < s.size
  · go_enter Tryd.func12, Tryd.ntmps12
    go_wp2_with (first
    | (go_at_call 19; refine (live_any _ (HW.out.ext hE)).mono ?_; rintro e w1 ⟨rfl, h2⟩; replace hE := ext_trans hE h2; clear h2))
    go_ret
    exact ⟨rfl, hE⟩
  cases hB : isB s.data.toList
  · go_enter Tryd.func12, Tryd.ntmps12
    go_wp2_with (first
    | (go_at_call 19; refine (live_any _ (HW.out.ext hE)).mono ?_; rintro e w1 ⟨rfl, h2⟩; replace hE := ext_trans hE h2; clear h2)
    | (go_at_call 20; refine (Check_any _ _ (by assumption)).mono ?_; rintro e w1 ⟨rfl, h2⟩; replace hE := ext_trans hE h2; clear h2))
    go_ret
    exact ⟨rfl, hE⟩
  have hpos : 0 < s.size := by
    rcases Nat.eq_zero_or_pos s.size with h | h
    · rw [Lib.size_eq] at h
      rw [List.eq_nil_of_length_eq_zero h] at hB; cases hB
    · exact h
  have hl' : decide ((300 : Int) < (s.size : Int)) = false := by simp; omega
  have hp' : ((s.size : Int) == 0) = false := by rw [beq_eq_false_iff_ne]; omega
  have hcv2 := fun w => run_bytes_of_string (P := Tryd.prog) w 9 75 5 s Tryd.underlying9 Tryd.underlying75 Tryd.underlying5
  go_enter Tryd.func12, Tryd.ntmps12
  go_upto_region 5 with (first
    | (go_at_call 19; refine (live_any _ (HW.out.ext hE)).mono ?_; rintro e w1 ⟨rfl, h2⟩; replace hE := ext_trans hE h2; clear h2)
    | (go_at_call 20; refine (Check_any _ _ (by assumption)).mono ?_; rintro e w1 ⟨rfl, h2⟩; replace hE := ext_trans hE h2; clear h2))
  go_upto_region 7 with fail
  obtain ⟨k, hk, hke⟩ := place_of i hpos
  rw [hke]
  obtain ⟨c, rfl⟩ := byte_of hb
  obtain ⟨cap, hcap⟩ : ∃ cap, grownCap w1 s.size 0 5 = cap := ⟨_, rfl⟩
  rw [hcap]
  have hcell := bytes_new w1 s cap 5
  have hfz := bytes_fz w1 s cap 5
  have hEA : Ext w ((w1.alloc (.cells (bytesRow s cap) 5 ((bytesRow s cap).size, (bytesRow s cap).size + 1))).drew) := (hE.alloc hE.size _).trans ((Fr.drew (fun _ => False) _).below (by have := (hE.alloc hE.size (.cells (bytesRow s cap) 5 ((bytesRow s cap).size, (bytesRow s cap).size + 1))).size; exact this) (fun _ h => h.elim))
  obtain ⟨wA, hwA⟩ : ∃ wA, (w1.alloc (.cells (bytesRow s cap) 5 ((bytesRow s cap).size, (bytesRow s cap).size + 1))).drew = wA := ⟨_, rfl⟩
  rw [hwA] at hcell hfz hEA ⊢
  obtain ⟨g, hg⟩ : ∃ g, w1.heap.size = g := ⟨_, rfl⟩
  have hgw : w.heap.size ≤ g := by rw [← hg]; exact hE.size
  rw [hg] at hcell hfz ⊢
  have hck := hcell k hk
  have hfk := hfz k hk
  have HCELL := Lib.hid hcell; clear hcell hfz hwA hcap hg hcv2
  go_upto_region 9 with fail
  obtain ⟨L, hL⟩ : ∃ L, s.data.toList.set k c = L := ⟨_, rfl⟩
  have hset := bytes_set (c := c) HCELL.out hk
  obtain ⟨wB, hwB⟩ : ∃ wB, wA.setCell ⟨g, k, none⟩ (.int .u8 (c.toNat : Int)) = wB := ⟨_, rfl⟩
  rw [hL, hwB] at hset
  have hEB : Ext w wB := by
    rw [← hwB]
    exact hEA.trans ((Fr.setCell (S := fun k => k = g) wA ⟨g, k, none⟩ _ rfl).below hEA.size (fun j hj => by rw [hj]; exact hgw))
  have hlen : L.length = s.size := by rw [← hL, List.length_set, Lib.size_eq]
  obtain ⟨r, hr⟩ : ∃ r : ByteArray, ⟨L.toArray⟩ = r := ⟨_, rfl⟩
  have hrd : r.data.toList = L := by rw [← hr]
  have hgB : g < wB.heap.size := by
    have h0 := hset 0 (by omega)
    exact cell_lt h0
  have HBK : Hid (∀ wx : World, Ext wB wx → (convert 75 9 (.slice (some ⟨g, 0, none⟩) s.size cap)).run Tryd.prog wx = .ok (.string r) wx) := by
    intro wx hx
    rw [← hr, ← hlen]
    exact run_convert_bytes_back wx _ _ 5 ⟨g, 0, none⟩ cap L Tryd.underlying75 Tryd.underlying5 Tryd.underlying9 (fun j hj => by
      have h1 := hset j hj
      have h2 := (hx.cell (cell_lt h1)).trans h1
      rw [show (⟨g, 0, none⟩ : Addr).add j = ⟨g, j, none⟩ from by unfold Addr.add; split <;> simp_all]; exact h2)
  have HBAD : Hid ((c.toNat : Int) ≠ 46 → mayB c = false → isB r.data.toList = false) := fun h1 h2 => by
    rw [hrd]
    refine bad_byte (c := c) ?_ (by rintro rfl; exact h1 rfl) h2
    rw [← hL]
    exact List.mem_set (by rw [← Lib.size_eq]; exact hk) c
  have HGOOD : Hid ((s[k].toNat : Int) ≠ 46 → edgeR (c.toNat : Int) = true → isB r.data.toList = true) := fun h1 h2 => by
    rw [hrd, ← hL]
    exact name_set hB (Lib.data_getElem? s k hk) (fun e => h1 (by rw [e]; rfl)) h2
  have hrs : r.size ≤ 9223372036854775807 := by rw [← hr, size_bs, hlen]; exact hs
  rw [hwB]
  clear hset hwB hL hlen hrd hr hgB hck hfk
  go_cut [10] (fun v wx => v = .bool (edgeR (c.toNat : Int)) ∧ wx = wB)
  case first =>
    go_wp2_with fail
    all_goals (go_meet; exact ⟨congrArg Value.bool (by rw [eq_comm, Bool.eq_iff_iff]; simp only [edgeR, Bool.or_eq_true, Bool.and_eq_true, decide_eq_true_eq]; (try simp) <;> omega), rfl⟩)
  case rest =>
    obtain ⟨rfl, rfl⟩ := hcut
    have hE2 : Ext wc wc := Below.refl _ _
    have t45 : ((c.toNat : Int) != 45) = !((c.toNat : Int) == 45) := rfl
    have t46 : ((c.toNat : Int) != 46) = !((c.toNat : Int) == 46) := rfl
    have t95 : ((c.toNat : Int) != 95) = !((c.toNat : Int) == 95) := rfl
    have tw : ((s[k].toNat : Int) != 46) = !((s[k].toNat : Int) == 46) := rfl
    have HW2 := Lib.hid (HW.out.ext hEB)
    cases hlet : edgeR (c.toNat : Int)
    · cases h45 : ((c.toNat : Int) == 45)
      · cases h46 : ((c.toNat : Int) == 46)
        · cases h95 : ((c.toNat : Int) == 95)
          · have hrB : isB r.data.toList = false := HBAD.out (by intro h; rw [h] at h46; cases h46) (by unfold mayB; rw [hlet, h45, h95]; rfl)
            have HUP : Hid (up r.data.toList = (⟨#[]⟩ : ByteArray).data.toList) := up_no hrB
            rw [h45] at t45; rw [h46] at t46; rw [h95] at t95
            have hbk := HBK.out _ hE2
            go_wp2_with (first
              | (go_at_call 20; refine (Check_any _ _ (by assumption)).mono ?_; rintro e w2 ⟨rfl, h2⟩; replace hE2 := ext_trans hE2 h2; clear h2; have hbk2 := HBK.out _ hE2)
              | (go_at_call 27; refine (Up_eq _ ⟨#[]⟩ _ (by assumption) HUP.out (HW2.out.ext hE2)).mono ?_; rintro e w2 ⟨rfl, h2⟩; replace hE2 := ext_trans hE2 h2; clear h2))
            go_ret
            exact ⟨ret_bool (by simp), ext_trans hEB hE2⟩
          · rw [h45] at t45; rw [h46] at t46; rw [h95] at t95
            go_wp2_with fail
            go_ret
            exact ⟨rfl, hEB⟩
        · rw [h45] at t45; rw [h46] at t46
          go_wp2_with fail
          go_ret
          exact ⟨rfl, hEB⟩
      · rw [h45] at t45
        go_wp2_with fail
        go_ret
        exact ⟨rfl, hEB⟩
    · cases hwas : ((s[k].toNat : Int) == 46)
      · have hrB : isB r.data.toList = true := HGOOD.out (by intro h; rw [h] at hwas; cases hwas) hlet
        have hbk := HBK.out _ hE2
        rw [hwas] at tw
        go_wp2_with (go_at_call 20; refine (Check_any _ _ (by assumption)).mono ?_; rintro e w2 ⟨rfl, h2⟩; replace hE2 := ext_trans hE2 h2; clear h2)
        go_ret
        exact ⟨ret_bool (by simp), ext_trans hEB hE2⟩
      · rw [hwas] at tw
        go_wp2_with fail
        go_ret
        exact ⟨rfl, hEB⟩
end Go.Proofs.YtjjkonaopmipoaaDoor
