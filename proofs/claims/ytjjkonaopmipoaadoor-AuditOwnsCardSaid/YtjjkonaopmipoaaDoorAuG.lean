/- Walk: whether a world is small (greatsealref32.Few): it tells something. -/
import Derived.Test.YtjjkonaopmipoaaDoorAuF
import Derived.BigGuard
namespace Go.Proofs.YtjjkonaopmipoaaDoor
open Go.RowKit Nam Aud

/-- It returns a bool; what lay, lies. -/
def RetB (w : World) (e : Ending) (w' : World) : Prop := ∃ b, e = .returned (.bool b) ∧ Ext w w'
/-- A log, as a world holds it: its two lists of leaves. -/
structure LogD where
  v0 : Int
  v1 : Int
  v2 : Int
  a3 : Option Addr
  n3 : Nat
  c3 : Nat
  a4 : Option Addr
  n4 : Nat
  c4 : Nat
  a5 : Option Addr
  n5 : Nat
  c5 : Nat
def LogAt : ElR LogD := fun w b o d => w.cell? ⟨b, o, none⟩ = some (.int .i64 d.v0) ∧ w.cell? ⟨b, o + 1, none⟩ = some (.int .u64 d.v1) ∧ w.cell? ⟨b, o + 2, none⟩ = some (.int .i64 d.v2) ∧ w.cell? ⟨b, o + 3, none⟩ = some (.slice d.a3 d.n3 d.c3) ∧
  w.cell? ⟨b, o + 4, none⟩ = some (.slice d.a4 d.n4 d.c4) ∧ w.cell? ⟨b, o + 5, none⟩ = some (.slice d.a5 d.n5 d.c5)
instance : Firm LogAt where
  ext := fun {w w' b o e} h hE => by
    obtain ⟨h0, h1, h2, h3, h4, h5⟩ := h
    exact ⟨ext_cell h0 hE, ext_cell h1 hE, ext_cell h2 hE, ext_cell h3 hE, ext_cell h4 hE, ext_cell h5 hE⟩
/-- A client: its roots, its heads. -/
structure CliD where
  v0 : ByteArray
  a1 : Option Addr
  n1 : Nat
  c1 : Nat
  a2 : Option Addr
  n2 : Nat
  c2 : Nat
  a3 : Option Addr
  n3 : Nat
  c3 : Nat
  v4 : Int
  a5 : Option Addr
  n5 : Nat
  c5 : Nat
  v6 : Int
def CliAt : ElR CliD := fun w b o d => w.cell? ⟨b, o, none⟩ = some (.string d.v0) ∧ w.cell? ⟨b, o + 1, none⟩ = some (.slice d.a1 d.n1 d.c1) ∧ w.cell? ⟨b, o + 2, none⟩ = some (.slice d.a2 d.n2 d.c2) ∧ w.cell? ⟨b, o + 3, none⟩ = some (.slice d.a3 d.n3 d.c3) ∧
  w.cell? ⟨b, o + 4, none⟩ = some (.int .i64 d.v4) ∧ w.cell? ⟨b, o + 5, none⟩ = some (.slice d.a5 d.n5 d.c5) ∧ w.cell? ⟨b, o + 6, none⟩ = some (.int .i64 d.v6)
instance : Firm CliAt where
  ext := fun {w w' b o e} h hE => by
    obtain ⟨h0, h1, h2, h3, h4, h5, h6⟩ := h
    exact ⟨ext_cell h0 hE, ext_cell h1 hE, ext_cell h2 hE, ext_cell h3 hE, ext_cell h4 hE, ext_cell h5 hE, ext_cell h6 hE⟩
/-- A cache: its list. -/
structure CacD where
  a0 : Option Addr
  n0 : Nat
  c0 : Nat
def CacAt : ElR CacD := fun w b o d => w.cell? ⟨b, o, none⟩ = some (.slice d.a0 d.n0 d.c0)
instance : Firm CacAt where
  ext := fun h hE => ext_cell h hE
/-- What Few reads of a world's cells. -/
structure FewCs (w : World) (cs : Array Value) (ll : List LogD) (lc : List CliD) (lk : List CacD) (al ac ak : Option Addr) (zl zc zk : Nat) : Prop where
  logs : cs[22]? = some (.slice al ll.length zl)
  clients : cs[39]? = some (.slice ac lc.length zc)
  caches : cs[5]? = some (.slice ak lk.length zk)
  logsAt : SlA 6 LogAt w al ll
  clientsAt : SlA 7 CliAt w ac lc
  cachesAt : SlA 1 CacAt w ak lk
  m1 : ll.length ≤ maxLen
  m2 : lc.length ≤ maxLen
  m3 : lk.length ≤ maxLen
  certs : ∃ a n c, cs[36]? = some (.slice a n c)
  signers : ∃ a n c, cs[20]? = some (.slice a n c)
  events : ∃ a n c, cs[42]? = some (.slice a n c)
  books : ∃ a n c, cs[40]? = some (.slice a n c)
  reports : ∃ a n c, cs[41]? = some (.slice a n c)
  servers : ∃ a n c, cs[1]? = some (.slice a n c)
  auths : ∃ a n c, cs[10]? = some (.slice a n c)
  orders : ∃ a n c, cs[11]? = some (.slice a n c)
  rules : ∃ a n c, cs[13]? = some (.slice a n c)
  nodes : ∃ a n c, cs[14]? = some (.slice a n c)
set_option maxRecDepth 100000 in
set_option maxHeartbeats 20000000 in
theorem few_any (cs : Array Value) (ll : List LogD) (lc : List CliD) (lk : List CacD) (al ac ak : Option Addr) (zl zc zk : Nat) (w : World) (h : FewCs w cs ll lc lk al ac ak zl zc zk) :
    Calls Tryd.prog 14 #[.agg cs] w (RetB w) := by
  obtain ⟨k22, k39, k5, hl, hc, hk, m1, m2, m3, ⟨a36, n36, z36, k36⟩, ⟨a20, n20, z20, k20⟩, ⟨a42, n42, z42, k42⟩, ⟨a40, n40, z40, k40⟩, ⟨a41, n41, z41, k41⟩, ⟨a1, n1, z1, k1⟩, ⟨a10, n10, z10, k10⟩, ⟨a11, n11, z11, k11⟩, ⟨a13, n13, z13, k13⟩, ⟨a14, n14, z14, k14⟩⟩ := h
  obtain ⟨nl, hnl⟩ : ∃ n, ll.length = n := ⟨_, rfl⟩
  obtain ⟨nc, hnc⟩ : ∃ n, lc.length = n := ⟨_, rfl⟩
  obtain ⟨nk, hnk⟩ : ∃ n, lk.length = n := ⟨_, rfl⟩
  rw [hnl] at k22 m1; rw [hnc] at k39 m2; rw [hnk] at k5 m3
  unfold maxLen at m1 m2 m3
  have HL := Lib.hid hl; have HC := Lib.hid hc; have HK := Lib.hid hk; have NL := Lib.hid hnl; have NC := Lib.hid hnc; have NK := Lib.hid hnk
  clear hl hc hk hnl hnc hnk
  go_enter Tryd.func14, Tryd.ntmps14
  go_wp2_with fail
  obtain ⟨W0, hW0⟩ : ∃ W0, w.alloc (Obj.cells cs 62) = W0 := ⟨_, rfl⟩
  have hcell : ∀ o v, cs[o]? = some v → W0.cell? ⟨w.heap.size, o, none⟩ = some v := fun o v h => by rw [← hW0]; simpa [go_sem] using h
  have c22 := hcell _ _ k22; have c39 := hcell _ _ k39; have c5 := hcell _ _ k5; have c36 := hcell _ _ k36; have c20 := hcell _ _ k20; have c42 := hcell _ _ k42; have c40 := hcell _ _ k40
  have c41 := hcell _ _ k41; have c1 := hcell _ _ k1; have c10 := hcell _ _ k10; have c11 := hcell _ _ k11; have c13 := hcell _ _ k13; have c14 := hcell _ _ k14
  have hE0 : Ext w W0 := by rw [← hW0]; exact ext_alloc (Below.refl _ _) _
  rw [hW0]
  clear hW0 hcell k22 k39 k5 k36 k20 k42 k40 k41 k1 k10 k11 k13 k14
  have HE0 := Lib.hid hE0
  have C22 := Lib.hid c22; have C39 := Lib.hid c39; have C5 := Lib.hid c5; have C36 := Lib.hid c36; have C20 := Lib.hid c20; have C42 := Lib.hid c42; have C40 := Lib.hid c40
  have C41 := Lib.hid c41; have C1 := Lib.hid c1; have C10 := Lib.hid c10; have C11 := Lib.hid c11; have C13 := Lib.hid c13; have C14 := Lib.hid c14
  clear hE0 c22 c39 c5 c36 c20 c42 c40 c41 c1 c10 c11 c13 c14
  go_loopw [12] (fun i wr => ∃ k : Nat, k ≤ nl ∧ i = .int .i64 k ∧ Ext W0 wr) (fun i _ => nl - (intOf i).toNat)
  case atStart => exact ⟨0, Nat.zero_le _, rfl, Below.refl _ _⟩
  case round =>
    obtain ⟨k, hk, rfl, hEr⟩ := hrel
    by_cases hlt : k < nl
    · obtain ⟨x, hx⟩ := get_some NL.out hlt
      obtain ⟨b, off, rfl, d0, d1, d2, d3, d4, d5⟩ := (HL.out.ext (ext_trans HE0.out hEr)) k x hx
      clear hx
      cases h3 : decide ((40 : Int) < x.n3)
      all_goals cases h5 : decide ((20 : Int) < x.n5)
      all_goals
        go_wp2_with fail
        first
        | (go_roundw
           case rel => exact ⟨k + 1, by omega, by go_num, ext_alloc hEr _⟩
           case measure => simp [intOf]; omega)
        | (go_ret
           exact ⟨_, rfl, ext_trans HE0.out (ext_alloc hEr _)⟩)
    · obtain ⟨W1, hW1⟩ : ∃ W1, W1 = wr := ⟨_, rfl⟩
      have hEE : Ext W1 wr := by rw [hW1]; exact Below.refl _ _
      rw [← hW1] at hEr
      have c39 := ext_cell C39.out (ext_trans hEr hEE)
      have HEE := Lib.hid hEE; have HE1 := Lib.hid (ext_trans HE0.out hEr); have HEr := Lib.hid hEr
      clear hEr hEE hW1
      go_wp2_with fail
      go_loopw [30] (fun i wr => ∃ k : Nat, k ≤ nc ∧ i = .int .i64 k ∧ Ext W1 wr) (fun i _ => nc - (intOf i).toNat)
      case atStart => exact ⟨0, Nat.zero_le _, rfl, HEE.out⟩
      case round =>
        obtain ⟨k2, hk2, rfl, hEr⟩ := hrel
        by_cases hlt : k2 < nc
        · obtain ⟨x, hx⟩ := get_some NC.out hlt
          obtain ⟨b, off, rfl, d0, d1, d2, d3, d4, d5, d6⟩ := (HC.out.ext (ext_trans HE1.out hEr)) k2 x hx
          clear hx
          cases h3 : decide ((60 : Int) < x.n3)
          all_goals cases h5 : decide ((4 : Int) < x.n1)
          all_goals
            go_wp2_with fail
            first
            | (go_roundw
               case rel => exact ⟨k2 + 1, by omega, by go_num, ext_alloc hEr _⟩
               case measure => simp [intOf]; omega)
            | (go_ret
               exact ⟨_, rfl, ext_trans HE1.out (ext_alloc hEr _)⟩)
        · obtain ⟨W2, hW2⟩ : ∃ W2, W2 = wr := ⟨_, rfl⟩
          have hEE : Ext W2 wr := by rw [hW2]; exact Below.refl _ _
          rw [← hW2] at hEr
          have c5 := ext_cell C5.out (ext_trans (ext_trans HEr.out hEr) hEE)
          have HEE2 := Lib.hid hEE; have HE2 := Lib.hid (ext_trans HE1.out hEr); have HEr2 := Lib.hid (ext_trans HEr.out hEr)
          clear hEr hEE hW2
          go_wp2_with fail
          go_loopw [49] (fun i wr => ∃ k : Nat, k ≤ nk ∧ i = .int .i64 k ∧ Ext W2 wr) (fun i _ => nk - (intOf i).toNat)
          case atStart => exact ⟨0, Nat.zero_le _, rfl, HEE2.out⟩
          case round =>
            obtain ⟨k3, hk3, rfl, hEr⟩ := hrel
            by_cases hlt : k3 < nk
            · obtain ⟨x, hx⟩ := get_some NK.out hlt
              obtain ⟨b, off, rfl, d0⟩ := (HK.out.ext (ext_trans HE2.out hEr)) k3 x hx
              unfold CacAt at d0
              rw [Nat.mul_one] at d0
              clear hx
              cases h3 : decide ((128 : Int) < x.n0)
              all_goals
                go_wp2_with fail
                first
                | (go_roundw
                   case rel => exact ⟨k3 + 1, by omega, by go_num, ext_alloc hEr _⟩
                   case measure => simp [intOf]; omega)
                | (go_ret
                   exact ⟨_, rfl, ext_trans HE2.out (ext_alloc hEr _)⟩)
            · have hE3 := ext_trans HEr2.out hEr
              have c22 := ext_cell C22.out hE3; have c39 := ext_cell C39.out hE3; have c5 := ext_cell C5.out hE3; have c36 := ext_cell C36.out hE3; have c20 := ext_cell C20.out hE3; have c42 := ext_cell C42.out hE3; have c40 := ext_cell C40.out hE3
              have c41 := ext_cell C41.out hE3; have c1 := ext_cell C1.out hE3; have c10 := ext_cell C10.out hE3; have c11 := ext_cell C11.out hE3; have c13 := ext_cell C13.out hE3; have c14 := ext_cell C14.out hE3
              have HE3 := Lib.hid (ext_trans HE2.out hEr)
              clear hE3 hEr
              clear C22 C39 C5 C36 C20 C42 C40 C41 C1 C10 C11 C13 C14 HL HC HK NL NC NK HE0 HEE HE1 HEr HEE2 HE2 HEr2
              cases t0 : decide ((nl : Int) ≤ 4)
              · go_wp2_with fail
                go_ret
                exact ⟨_, rfl, HE3.out⟩
              cases t1 : decide ((nc : Int) ≤ 6)
              · go_wp2_with fail
                go_ret
                exact ⟨_, rfl, HE3.out⟩
              cases t2 : decide ((nk : Int) ≤ 10)
              · go_wp2_with fail
                go_ret
                exact ⟨_, rfl, HE3.out⟩
              cases t3 : decide ((n36 : Int) ≤ 20)
              · go_wp2_with fail
                go_ret
                exact ⟨_, rfl, HE3.out⟩
              cases t4 : decide ((n20 : Int) ≤ 8)
              · go_wp2_with fail
                go_ret
                exact ⟨_, rfl, HE3.out⟩
              cases t5 : decide ((n42 : Int) ≤ 200)
              · go_wp2_with fail
                go_ret
                exact ⟨_, rfl, HE3.out⟩
              cases t6 : decide ((n40 : Int) ≤ 60)
              · go_wp2_with fail
                go_ret
                exact ⟨_, rfl, HE3.out⟩
              cases t7 : decide ((n41 : Int) ≤ 30)
              · go_wp2_with fail
                go_ret
                exact ⟨_, rfl, HE3.out⟩
              cases t8 : decide ((n1 : Int) ≤ 10)
              · go_wp2_with fail
                go_ret
                exact ⟨_, rfl, HE3.out⟩
              cases t9 : decide ((n10 : Int) ≤ 100)
              · go_wp2_with fail
                go_ret
                exact ⟨_, rfl, HE3.out⟩
              cases t10 : decide ((n11 : Int) ≤ 60)
              · go_wp2_with fail
                go_ret
                exact ⟨_, rfl, HE3.out⟩
              cases t11 : decide ((n13 : Int) ≤ 32)
              · go_wp2_with fail
                go_ret
                exact ⟨_, rfl, HE3.out⟩
              cases t12 : decide ((n14 : Int) ≤ 300)
              · go_wp2_with fail
                go_ret
                exact ⟨_, rfl, HE3.out⟩
              go_wp2_with fail
              go_ret
              exact ⟨_, rfl, HE3.out⟩
end Go.Proofs.YtjjkonaopmipoaaDoor
