/- The law NamesMeets: its walk. -/
import Derived.Test.YtjjkonaopmipoaaDoorNc3
import Derived.Deep.DeepCutAuto
namespace Go.Proofs.YtjjkonaopmipoaaDoor
open Go.RowKit Nam
attribute [local go_sem] okOr_true okOr_false

theorem own_ext {w w' : World} {base : Nat} {e : TypeId} {size : Nat} {v : Value} {n : Nat} {xs : List Value} (h : w.ownsRow base e size v n xs) (hE : Ext w w') : w'.ownsRow base e size v n xs :=
  h.kept (row := none) ⟨hE.os, hE.tape, hE.output, hE.size, fun k hk _ => hE.block k hk⟩ (by
    cases h : v.ownBlock
    · exact .inl rfl
    · exact .inr (by simp))
/-- A name that both match stands in a list. -/
def Wit (p q : Str) (L : List Str) : Prop := ∃ (j : Nat) (x : Str), L[j]? = some x ∧ rmatchB p x = true ∧ rmatchB q x = true
theorem meets_within {p q : Str} (h : rmeetsB p q = true) : rwithinB p q = true ∨ rwithinB q p = true := by
  rw [← meets_eq] at h; unfold meetsB at h
  rw [within_eq, within_eq] at h
  exact Bool.or_eq_true _ _ ▸ h
theorem within_meets {p q : Str} (h : rwithinB p q = true ∨ rwithinB q p = true) : rmeetsB p q = true := by
  rw [← meets_eq]; unfold meetsB
  rw [within_eq, within_eq]
  rcases h with h | h
  · rw [h]; rfl
  · rw [h]; simp
theorem meets_symm (p q : Str) : rmeetsB q p = rmeetsB p q := by
  rw [Bool.eq_iff_iff]
  exact ⟨fun h => within_meets (meets_within h).symm, fun h => within_meets (meets_within h).symm⟩
/-- How far the search in L has come without success. -/
def NoneTo (p q : Str) (L : List Str) (k : Nat) : Prop := ∀ (j : Nat) (x : Str), j < k → L[j]? = some x → (rmatchB p x && rmatchB q x) = false
theorem none_step {p q : Str} {L : List Str} {k : Nat} {x : Str} (h : NoneTo p q L k) (hx : L[k]? = some x) (hm : (rmatchB p x && rmatchB q x) = false) : NoneTo p q L (k + 1) := by
  intro j y hj hy
  by_cases e : j = k
  · subst e; rw [hx] at hy; injection hy with hy; rw [← hy]; exact hm
  · exact h j y (by omega) hy
theorem none_wit {p q : Str} {L : List Str} (h : NoneTo p q L L.length) (hw : Wit p q L) : False := by
  obtain ⟨j, x, hx, h1, h2⟩ := hw
  have := h j x (List.getElem?_eq_some_iff.1 hx).1 hx
  rw [h1, h2] at this; cases this
theorem sl_pair (w : World) (p q : ByteArray) : (w.alloc (.cells #[.string p, .string q] 9)).ownsRow w.heap.size 9 1 (.slice (some ⟨w.heap.size, 0, none⟩) 2 2) 2 [.string p, .string q] :=
  World.ownsRow_lit w #[.string p, .string q] 2 (Nat.le_refl _) (by unfold maxLen; omega) rfl
theorem strV_eta (p : ByteArray) : strV p.data.toList = .string p := by unfold strV; rw [eta]
theorem own_mono {w : World} {base base' : Nat} {e : TypeId} {size : Nat} {v : Value} {n : Nat} {xs : List Value} (h : w.ownsRow base e size v n xs) (hb : base' ≤ base) : w.ownsRow base' e size v n xs := by
  obtain ⟨h0, h1⟩ := h
  refine ⟨h0, ?_⟩
  rcases h1 with h1 | ⟨g, cap, cur, a, b, c⟩
  · exact .inl h1
  · exact .inr ⟨g, cap, cur, a, by omega, c⟩
/-- A text that a letter is put ahead of. -/
def longer (p : ByteArray) : Bool := decide (2 < p.size) && !isB p.data.toList
theorem longer_size {p : ByteArray} (h : longer p = true) : 2 < p.size := by
  unfold longer at h; simp at h; exact h.1
theorem longer_eq (p : ByteArray) : longer p = (decide ((2 : Int) < p.size) && !isB p.data.toList) := by
  unfold longer
  have : decide ((2 : Int) < p.size) = decide (2 < p.size) := by rw [Bool.eq_iff_iff]; simp; omega
  rw [this]
def CandsAt (base : Nat) (w : World) (p q X Y : ByteArray) (hasX hasY : Bool) (most : Nat) (v : Value) (wx : World) : Prop :=
  ∃ L : List Str, wx.ownsRow base 9 1 v L.length (L.map strV) ∧ L.length ≤ most ∧ (∀ x ∈ L, x.length ≤ 1000) ∧ p.data.toList ∈ L ∧ q.data.toList ∈ L ∧ (hasX = true → X.data.toList ∈ L) ∧ (hasY = true → Y.data.toList ∈ L) ∧ Ext w wx
theorem wit_mem {p q x : Str} {L : List Str} (h : x ∈ L) (h1 : rmatchB p x = true) (h2 : rmatchB q x = true) : Wit p q L := by
  obtain ⟨j, hj⟩ := List.mem_iff_getElem?.1 h
  exact ⟨j, x, hj, h1, h2⟩
theorem wit_of {p q X Y : ByteArray} {L : List Str}
    (h : (isB p.data.toList = true ∧ rmatchB p.data.toList p.data.toList = true ∧ rmatchB q.data.toList p.data.toList = true) ∨
      (isB p.data.toList = false ∧ 2 < p.size ∧ rmatchB p.data.toList X.data.toList = true ∧ rmatchB q.data.toList X.data.toList = true) ∨
      (isB q.data.toList = true ∧ rmatchB p.data.toList q.data.toList = true ∧ rmatchB q.data.toList q.data.toList = true) ∨
      (isB q.data.toList = false ∧ 2 < q.size ∧ rmatchB p.data.toList Y.data.toList = true ∧ rmatchB q.data.toList Y.data.toList = true))
    (hp : p.data.toList ∈ L) (hq : q.data.toList ∈ L) (hX : longer p = true → X.data.toList ∈ L) (hY : longer q = true → Y.data.toList ∈ L) : Wit p.data.toList q.data.toList L := by
  rcases h with ⟨_, a, b⟩ | ⟨c, d, a, b⟩ | ⟨_, a, b⟩ | ⟨c, d, a, b⟩
  · exact wit_mem hp a b
  · exact wit_mem (hX (by unfold longer; rw [c]; simp [d])) a b
  · exact wit_mem hq a b
  · exact wit_mem (hY (by unfold longer; rw [c]; simp [d])) a b
set_option maxRecDepth 100000 in
set_option maxHeartbeats 4000000 in
theorem NamesMeets_any (p q s : ByteArray) (w : World) (hw : Env w) (hp : p.size ≤ 9223372036854775807) (hq : q.size ≤ 9223372036854775807) (hs : s.size ≤ 9223372036854775807) :
    Calls Tryd.prog 7 #[.string p, .string q, .string s] w (Ret (.bool true) w) := by
  have HW := Lib.hid hw; clear hw
  have hE : Ext w w := Below.refl _ _
  cases hsh : shortB p q s
  · go_enter Tryd.func7, Tryd.ntmps7
    go_wp2_with (first
    | (go_at_call 19; refine (live_any _ (HW.out.ext hE)).mono ?_; rintro e w1 ⟨rfl, h2⟩; replace hE := ext_trans hE h2; clear h2)
    | (go_at_call 29; refine (short_any _ _ _ _).mono ?_; rintro e w1 ⟨rfl, h2⟩; replace hE := ext_trans hE h2; clear h2))
    go_ret
    exact ⟨rfl, hE⟩
  have hsym := meets_symm p.data.toList q.data.toList
  cases hm : rmeetsB p.data.toList q.data.toList
  · rw [hm] at hsym
    have h1 : rwithinB p.data.toList q.data.toList = false := by
      rw [Bool.eq_false_iff]; intro h; rw [within_meets (.inl h)] at hm; cases hm
    have h2 : rmatchB p.data.toList s.data.toList = false ∨ (rmatchB p.data.toList s.data.toList = true ∧ rmatchB q.data.toList s.data.toList = false) := by
      cases h3 : rmatchB p.data.toList s.data.toList
      · exact .inl rfl
      · right; refine ⟨rfl, ?_⟩
        rw [Bool.eq_false_iff]; intro h4
        rw [within_meets (match_meets h3 h4)] at hm; cases hm
    rcases h2 with h2 | ⟨h2, h3⟩
    all_goals
      go_enter Tryd.func7, Tryd.ntmps7
      go_wp2_with (first
    | (go_at_call 19; refine (live_any _ (HW.out.ext hE)).mono ?_; rintro e w1 ⟨rfl, h2⟩; replace hE := ext_trans hE h2; clear h2)
    | (go_at_call 29; refine (short_any _ _ _ _).mono ?_; rintro e w1 ⟨rfl, h2⟩; replace hE := ext_trans hE h2; clear h2)
    | (go_at_call 32; refine (Match_r _ _ _ (by assumption) (by assumption) (HW.out.ext hE)).mono ?_; rintro e w1 ⟨rfl, h2⟩; replace hE := ext_trans hE h2; clear h2)
    | (go_at_call 34; refine (Within_r _ _ _ (by assumption) (by assumption) (HW.out.ext hE)).mono ?_; rintro e w1 ⟨rfl, h2⟩; replace hE := ext_trans hE h2; clear h2)
    | (go_at_call 36; refine (Meets_r _ _ _ (by assumption) (by assumption) (HW.out.ext hE)).mono ?_; rintro e w1 ⟨rfl, h2⟩; replace hE := ext_trans hE h2; clear h2))
      go_ret
      exact ⟨rfl, hE⟩
  rw [hm] at hsym
  have hwit : (isB p.data.toList = true ∧ rmatchB p.data.toList p.data.toList = true ∧ rmatchB q.data.toList p.data.toList = true) ∨
      (isB p.data.toList = false ∧ 2 < p.size ∧ rmatchB p.data.toList (120 :: p.data.toList.drop 1) = true ∧ rmatchB q.data.toList (120 :: p.data.toList.drop 1) = true) ∨
      (isB q.data.toList = true ∧ rmatchB p.data.toList q.data.toList = true ∧ rmatchB q.data.toList q.data.toList = true) ∨
      (isB q.data.toList = false ∧ 2 < q.size ∧ rmatchB p.data.toList (120 :: q.data.toList.drop 1) = true ∧ rmatchB q.data.toList (120 :: q.data.toList.drop 1) = true) := by
    rcases meets_within hm with h | h
    · rcases within_name h with h | ⟨a, b, c, d⟩
      · exact .inl h
      · exact .inr (.inl ⟨a, by rw [Lib.size_eq]; exact b, c, d⟩)
    · rcases within_name h with ⟨a, b, c⟩ | ⟨a, b, c, d⟩
      · exact .inr (.inr (.inl ⟨a, c, b⟩))
      · exact .inr (.inr (.inr ⟨a, by rw [Lib.size_eq]; exact b, d, c⟩))
  obtain ⟨i0, hi, hz0, hz1, hz2⟩ := info_parts Tryd.infoStr
  obtain ⟨X, hX⟩ : ∃ X, (⟨#[120]⟩ : ByteArray) ++ p.extract 1 p.size = X := ⟨_, rfl⟩
  obtain ⟨Y, hY⟩ : ∃ Y, (⟨#[120]⟩ : ByteArray) ++ q.extract 1 q.size = Y := ⟨_, rfl⟩
  have hXd := x_data 120 p X hX
  have hYd := x_data 120 q Y hY
  rw [← hXd, ← hYd] at hwit
  have hps : p.data.toList.length ≤ 1000 := by unfold shortB at hsh; rw [← Lib.size_eq]; simp at hsh; omega
  have hqs : q.data.toList.length ≤ 1000 := by unfold shortB at hsh; rw [← Lib.size_eq]; simp at hsh; omega
  have hXs : X.data.toList.length ≤ 1000 := by rw [hXd, List.length_cons, List.length_drop]; omega
  have hYs : Y.data.toList.length ≤ 1000 := by rw [hYd, List.length_cons, List.length_drop]; omega
  have HPS := Lib.hid hps; have HQS := Lib.hid hqs; have HXS := Lib.hid hXs; have HYS := Lib.hid hYs; clear hps hqs hXs hYs
  have HX := Lib.hid hX; have HY := Lib.hid hY; have HWIT := Lib.hid hwit; clear hX hY hXd hYd hwit hm
  have hm : rmeetsB p.data.toList q.data.toList = true := by rw [← meets_symm]; exact hsym
  go_enter Tryd.func7, Tryd.ntmps7
  go_upto_region 5 with (first
    | (go_at_call 19; refine (live_any _ (HW.out.ext hE)).mono ?_; rintro e w1 ⟨rfl, h2⟩; replace hE := ext_trans hE h2; clear h2)
    | (go_at_call 29; refine (short_any _ _ _ _).mono ?_; rintro e w1 ⟨rfl, h2⟩; replace hE := ext_trans hE h2; clear h2))
  go_cut [33] (fun s33 wx => s33 = .bool false ∧ Ext w wx)
  case first =>
    go_wp2_with (first
    | (go_at_call 34; refine (Within_r _ _ _ (by assumption) (by assumption) (HW.out.ext hE)).mono ?_; rintro e w1 ⟨rfl, h2⟩; replace hE := ext_trans hE h2; clear h2)
    | (go_at_call 36; refine (Meets_r _ _ _ (by assumption) (by assumption) (HW.out.ext hE)).mono ?_; rintro e w1 ⟨rfl, h2⟩; replace hE := ext_trans hE h2; clear h2))
    all_goals (go_meet; exact ⟨rfl, hE⟩)
  case rest =>
    obtain ⟨rfl, hE⟩ := hcut
    go_upto_region 7 with (first
    | (go_at_call 19; refine (live_any _ (HW.out.ext hE)).mono ?_; rintro e w1 ⟨rfl, h2⟩; replace hE := ext_trans hE h2; clear h2))
    go_cut [47] (fun s47 wx => s47 = .bool false ∧ Ext w wx)
    case first =>
      go_wp2_with (first
    | (go_at_call 32; refine (Match_r _ _ _ (by assumption) (by assumption) (HW.out.ext hE)).mono ?_; rintro e w1 ⟨rfl, h2⟩; replace hE := ext_trans hE h2; clear h2)
    | (go_at_call 36; refine (Meets_r _ _ _ (by assumption) (by assumption) (HW.out.ext hE)).mono ?_; rintro e w1 ⟨rfl, h2⟩; replace hE := ext_trans hE h2; clear h2))
      all_goals (go_meet; exact ⟨rfl, hE⟩)
    case rest =>
      obtain ⟨rfl, hE⟩ := hcut
      go_upto_region 12 with (first
    | (go_at_call 36; refine (Meets_r _ _ _ (by assumption) (by assumption) (HW.out.ext hE)).mono ?_; rintro e w1 ⟨rfl, h2⟩; replace hE := ext_trans hE h2; clear h2))
      have hpair := sl_pair w1 p q
      have hE1 : Ext w (w1.alloc (.cells #[.string p, .string q] 9)) := hE.alloc hE.size _
      obtain ⟨wA, hwA⟩ : ∃ wA, w1.alloc (.cells #[.string p, .string q] 9) = wA := ⟨_, rfl⟩
      rw [hwA] at hpair hE1
      have hown : wA.ownsRow w.heap.size 9 1 (.slice (some ⟨w1.heap.size, 0, none⟩) 2 2) 2 [.string p, .string q] := own_mono hpair hE.size
      rw [hwA]
      go_cut [62] (fun s62 wx => s62 = .bool (longer p) ∧ Ext wA wx)
      case first =>
        have HL := Lib.hid (longer_eq p)
        cases hb : isB p.data.toList
        all_goals
          have hE := Below.refl wA.heap.size wA
          go_wp2_with (first
    | (go_at_call 20; refine (Check_any _ _ (by assumption)).mono ?_; rintro e w1 ⟨rfl, h2⟩; replace hE := ext_trans hE h2; clear h2))
          all_goals (go_meet; exact ⟨by rw [HL.out, hb]; simp <;> omega, hE⟩)
      case rest =>
        obtain ⟨rfl, hE2⟩ := hcut
        have hown2 := own_ext hown hE2
        have hE := ext_trans hE1 hE2
        clear hpair hown hwA
        go_upto_if 62 with fail
        go_cut [7] (fun v wx => CandsAt w.heap.size w p q X Y (longer p) false 3 v wx)
        case first =>
          cases hP : longer p
          · go_wp2_with fail
            go_meet
            refine ⟨[p.data.toList, q.data.toList], ?_, by simp, (fun x hx => by simp at hx; rcases hx with rfl | rfl <;> first | exact HPS.out | exact HQS.out | exact HXS.out), by simp, by simp, (fun h => by rw [hP] at h; cases h), (fun h => by cases h), hE⟩
            simp only [List.map_cons, List.map_nil, strV_eta]; exact hown2
          · have hsz := hE.size
            have hp2 : 2 < p.size := longer_size hP
            go_wp2_with (at_builtin; refine wpList_append_own _ rfl _ _ 47 rfl w.heap.size 9 i0 (.string ⟨#[]⟩) 1 16 Tryd.underlying47 hi hz0 hz1 hz2 rfl (by decide) _ _ _ rfl (hown2.alloc _) ⟨wc.heap.size, 0, none⟩ 1 1 [.string (⟨#[120]⟩ ++ p.extract 1 p.size)] rfl rfl (one_cell_new _ _ _) (by simp [Value.oneCell']) (by unfold maxLen; omega) (by omega) (by have := hE.size; simp; omega) ?_; intro v' w2 hown1 hgrow1 _)
            go_meet
            refine ⟨[p.data.toList, q.data.toList, X.data.toList], ?_, by simp, (fun x hx => by simp at hx; rcases hx with rfl | rfl | rfl <;> first | exact HPS.out | exact HQS.out | exact HXS.out), by simp, by simp, (fun _ => by simp), (fun h => by cases h), (hE.alloc hsz _).grown hgrow1 (by simp; omega) (own_ge hown2)⟩
            simp only [List.map_cons, List.map_nil, strV_eta]
            rw [HX.out] at hown1; exact hown1
        case rest =>
          obtain ⟨L, hown, hL3, hLs, hLp, hLq, hLX, _, hE⟩ := hcut
          go_upto_region 14 with fail
          go_cut [76] (fun s wx => s = .bool (longer q) ∧ Ext wc wx)
          case first =>
            have HL := Lib.hid (longer_eq q)
            cases hb : isB q.data.toList
            all_goals
              have hE := Below.refl wc.heap.size wc
              go_wp2_with (first
    | (go_at_call 20; refine (Check_any _ _ (by assumption)).mono ?_; rintro e w1 ⟨rfl, h2⟩; replace hE := ext_trans hE h2; clear h2))
              all_goals (go_meet; exact ⟨by rw [HL.out, hb]; simp <;> omega, hE⟩)
          case rest =>
            obtain ⟨rfl, hE2⟩ := hcut
            have hown2 := own_ext hown hE2
            replace hE := ext_trans hE hE2
            clear hown hE2
            go_upto_if 76 with fail
            go_cut [7] (fun v wx => CandsAt w.heap.size w p q X Y (longer p) (longer q) 4 v wx)
            case first =>
              cases hQ : longer q
              · go_wp2_with fail
                go_meet
                exact ⟨L, hown2, by omega, hLs, hLp, hLq, hLX, (fun h => by rw [hQ] at h; cases h), hE⟩
              · have hsz := hE.size
                have hq2 : 2 < q.size := longer_size hQ
                go_wp2_with (at_builtin; refine wpList_append_own _ rfl _ _ 47 rfl w.heap.size 9 i0 (.string ⟨#[]⟩) 1 16 Tryd.underlying47 hi hz0 hz1 hz2 rfl (by decide) _ _ _ rfl (hown2.alloc _) ⟨wc.heap.size, 0, none⟩ 1 1 [.string (⟨#[120]⟩ ++ q.extract 1 q.size)] rfl rfl (one_cell_new _ _ _) (by simp [Value.oneCell']) (by unfold maxLen; omega) (by omega) (by have := hE.size; simp; omega) ?_; intro v' w2 hown1 hgrow1 _)
                go_meet
                refine ⟨L ++ [Y.data.toList], ?_, by simp; omega, (fun x hx => by rcases List.mem_append.1 hx with hx | hx; exact hLs x hx; simp at hx; rw [hx]; exact HYS.out), by simp [hLp], by simp [hLq], (fun h => by simp [hLX h]), (fun _ => by simp), (hE.alloc hsz _).grown hgrow1 (by simp; omega) (own_ge hown2)⟩
                rw [List.map_append, List.length_append]
                simp only [List.map_cons, List.map_nil, strV_eta, List.length_singleton]
                rw [HY.out] at hown1; exact hown1
            case rest =>
              obtain ⟨L, hown, hL4, hLs, hLp, hLq, hLX, hLY, hE⟩ := hcut
              have hwit : Wit p.data.toList q.data.toList L := wit_of HWIT.out hLp hLq hLX hLY
              have hsl := Sl.own hown
              obtain ⟨n, hn⟩ : ∃ n, L.length = n := ⟨_, rfl⟩
              have hszs : ∀ x ∈ L, (⟨x.toArray⟩ : ByteArray).size ≤ 9223372036854775807 := fun x hx => by rw [size_bs]; have := hLs x hx; omega
              rcases hsl with ⟨h0, _⟩ | ⟨b, off, cap, rfl, hcap, hmax, hcell⟩
              · rw [List.map_eq_nil_iff.1 h0] at hLp; cases hLp
              rw [List.length_map, hn] at hcap ⊢
              unfold maxLen at hmax
              have HC := Lib.hid hcell; have HN := Lib.hid hn; have HWI := Lib.hid hwit; have HS := Lib.hid hszs
              clear hcell hn hwit hszs hown hLs hLp hLq hLX hLY
              have HWA := Lib.hid (HW.out.ext hE)
              obtain ⟨wB, hwB⟩ : ∃ wB, wB = wc := ⟨_, rfl⟩
              have hE0 : Ext wB wc := by rw [hwB]; exact Below.refl _ _
              rw [← hwB] at HC hE HWA
              have HE0 := Lib.hid hE0; clear hwB hE0
              go_wp2_with fail
              go_loopw [8] (fun i wr => ∃ k : Nat, k ≤ n ∧ i = .int .i64 k ∧ NoneTo p.data.toList q.data.toList L k ∧ Ext wB wr) (fun i _ => n - (intOf i).toNat)
              case atStart => exact ⟨0, Nat.zero_le _, rfl, (fun j x hj => by omega), HE0.out⟩
              case round =>
                obtain ⟨k, hk, rfl, hnone, hEr⟩ := hrel
                have HNO := Lib.hid hnone; clear hnone
                by_cases hlt : k < n
                · obtain ⟨x, hx⟩ : ∃ x, L[k]? = some x := ⟨_, List.getElem?_eq_getElem (by rw [HN.out]; exact hlt)⟩
                  obtain ⟨z, hz⟩ : ∃ z : ByteArray, ⟨x.toArray⟩ = z := ⟨_, rfl⟩
                  have hzs := HS.out x (List.mem_of_getElem? hx)
                  rw [hz] at hzs
                  have hc : wr.cell? ⟨b, off + k, none⟩ = some (.string z) := by rw [← hz]; exact (HC.out.ext hEr).at hx
                  have HCC : Hid (CellIs wr b (off + k) (.string z)) := hc
                  have hzd : z.data.toList = x := by rw [← hz]
                  have hw1 := HWA.out.ext hEr
                  have hE2 := Below.refl wr.heap.size wr
                  have hstep : (rmatchB p.data.toList z.data.toList && rmatchB q.data.toList z.data.toList) = false → NoneTo p.data.toList q.data.toList L (k + 1) := fun h => none_step HNO.out hx (by rw [← hzd]; exact h)
                  have HST := Lib.hid hstep; have HWR := Lib.hid hw1; have HER := Lib.hid hEr
                  clear hx hz hzd hw1 hstep
                  cases hm1 : rmatchB p.data.toList z.data.toList
                  all_goals cases hm2 : rmatchB q.data.toList z.data.toList
                  all_goals
                    go_wp2_with (first
                      | (go_at_call 32; refine (Match_r _ _ _ (by assumption) (by assumption) (HWR.out.ext hE2)).mono ?_; rintro e w1 ⟨rfl, h2⟩; replace hE2 := ext_trans hE2 h2; clear h2; have hcn : w1.cell? ⟨b, off + k, none⟩ = some (.string z) := HCC.out.ext hE2))
                  · go_roundw
                    case rel => exact ⟨k + 1, by omega, by go_num, HST.out (by rw [hm1]; rfl), ext_trans HER.out hE2⟩
                    case measure => simp [intOf]; omega
                  · go_roundw
                    case rel => exact ⟨k + 1, by omega, by go_num, HST.out (by rw [hm1]; rfl), ext_trans HER.out hE2⟩
                    case measure => simp [intOf]; omega
                  · go_roundw
                    case rel => exact ⟨k + 1, by omega, by go_num, HST.out (by rw [hm1, hm2]; rfl), ext_trans HER.out hE2⟩
                    case measure => simp [intOf]; omega
                  · go_ret
                    exact ⟨rfl, ext_trans hE (ext_trans HER.out hE2)⟩
                · have hks : k = n := by omega
                  exact (none_wit (by rw [HN.out, ← hks]; exact HNO.out) HWI.out).elim
end Go.Proofs.YtjjkonaopmipoaaDoor
