/- What is read of a world; the law AuditOwns, of any world that is read. -/
import Derived.Test.YtjjkonaopmipoaaDoorAuH
import Derived.Test.YtjjkonaopmipoaaDoorAuG
import Derived.Test.YtjjkonaopmipoaaDoorRd
namespace Go.Proofs.YtjjkonaopmipoaaDoor
open Go.RowKit Nam Aud

section
variable {H : Type} {enc : TypeId × Value → H} {w : World}
theorem get_toList {cs : Array Value} {o : Nat} {v : Value} (h : cs.toList[o]? = some v) : cs[o]? = some v := by simpa using h
/-- Six cells, each read: an event. -/
theorem ev_read (b o : Nat) (es : List Value) (hlen : es.length = 6) (hc : ∀ j v, es[j]? = some v → w.cell? ⟨b, o + j, none⟩ = some v) (h : Rds enc Tryd.prog w 100 es) :
    ∃ e : Ev, EvAt w b o e ∧ (Lit.int .i64 e.n).wf = true := by
  have ht := Tryd.underlying100
  match es, hlen with
  | [e0, e1, e2, e3, e4, e5], _ =>
    obtain ⟨k, h0, _⟩ := (h.at ht 0 3 0 1 rfl (by kernel_rfl)).int Tryd.underlying3
    obtain ⟨t, h1, _⟩ := (h.at ht 1 3 1 1 rfl (by kernel_rfl)).int Tryd.underlying3
    obtain ⟨who, h2, _⟩ := (h.at ht 2 9 2 1 rfl (by kernel_rfl)).string Tryd.underlying9
    obtain ⟨name, h3, _⟩ := (h.at ht 3 9 3 1 rfl (by kernel_rfl)).string Tryd.underlying9
    obtain ⟨n, h4, hw⟩ := (h.at ht 4 3 4 1 rfl (by kernel_rfl)).int Tryd.underlying3
    obtain ⟨m, h5, _⟩ := (h.at ht 5 3 5 1 rfl (by kernel_rfl)).int Tryd.underlying3
    exact ⟨⟨k, t, who, name, n, m⟩, ⟨hc 0 _ (cut_get h0), hc 1 _ (cut_get h1), hc 2 _ (cut_get h2), hc 3 _ (cut_get h3), hc 4 _ (cut_get h4), hc 5 _ (cut_get h5)⟩, hw⟩
theorem log_read (b o : Nat) (es : List Value) (hlen : es.length = 6) (hc : ∀ j v, es[j]? = some v → w.cell? ⟨b, o + j, none⟩ = some v) (h : Rds enc Tryd.prog w 80 es) :
    ∃ d : LogD, LogAt w b o d ∧ True := by
  have ht := Tryd.underlying80
  match es, hlen with
  | [e0, e1, e2, e3, e4, e5], _ =>
    obtain ⟨v0, h0, _⟩ := (h.at ht 0 3 0 1 rfl (by kernel_rfl)).int Tryd.underlying3
    obtain ⟨v1, h1, _⟩ := (h.at ht 1 41 1 1 rfl (by kernel_rfl)).int Tryd.underlying41
    obtain ⟨v2, h2, _⟩ := (h.at ht 2 3 2 1 rfl (by kernel_rfl)).int Tryd.underlying3
    obtain ⟨a3, n3, c3, h3, _, _⟩ := (h.at ht 3 78 3 1 rfl (by kernel_rfl)).slice Tryd.underlying78
    obtain ⟨a4, n4, c4, h4, _, _⟩ := (h.at ht 4 54 4 1 rfl (by kernel_rfl)).slice Tryd.underlying54
    obtain ⟨a5, n5, c5, h5, _, _⟩ := (h.at ht 5 78 5 1 rfl (by kernel_rfl)).slice Tryd.underlying78
    exact ⟨⟨v0, v1, v2, a3, n3, c3, a4, n4, c4, a5, n5, c5⟩, ⟨hc 0 _ (cut_get h0), hc 1 _ (cut_get h1), hc 2 _ (cut_get h2), hc 3 _ (cut_get h3), hc 4 _ (cut_get h4), hc 5 _ (cut_get h5)⟩, trivial⟩
theorem cli_read (b o : Nat) (es : List Value) (hlen : es.length = 7) (hc : ∀ j v, es[j]? = some v → w.cell? ⟨b, o + j, none⟩ = some v) (h : Rds enc Tryd.prog w 89 es) :
    ∃ d : CliD, CliAt w b o d ∧ True := by
  have ht := Tryd.underlying89
  match es, hlen with
  | [e0, e1, e2, e3, e4, e5, e6], _ =>
    obtain ⟨v0, h0, _⟩ := (h.at ht 0 9 0 1 rfl (by kernel_rfl)).string Tryd.underlying9
    obtain ⟨a1, n1, c1, h1, _, _⟩ := (h.at ht 1 53 1 1 rfl (by kernel_rfl)).slice Tryd.underlying53
    obtain ⟨a2, n2, c2, h2, _, _⟩ := (h.at ht 2 81 2 1 rfl (by kernel_rfl)).slice Tryd.underlying81
    obtain ⟨a3, n3, c3, h3, _, _⟩ := ((h.at ht 3 84 3 1 rfl (by kernel_rfl)).at Tryd.underlying84 0 82 0 1 rfl (by kernel_rfl)).slice Tryd.underlying82
    obtain ⟨v4, h4, _⟩ := ((h.at ht 4 87 4 2 rfl (by kernel_rfl)).at Tryd.underlying87 0 3 0 1 rfl (by kernel_rfl)).int Tryd.underlying3
    obtain ⟨a5, n5, c5, h5, _, _⟩ := ((h.at ht 4 87 4 2 rfl (by kernel_rfl)).at Tryd.underlying87 1 85 1 1 rfl (by kernel_rfl)).slice Tryd.underlying85
    obtain ⟨v6, h6, _⟩ := (h.at ht 5 3 6 1 rfl (by kernel_rfl)).int Tryd.underlying3
    exact ⟨⟨v0, a1, n1, c1, a2, n2, c2, a3, n3, c3, v4, a5, n5, c5, v6⟩, ⟨hc 0 _ (cut_get h0), hc 1 _ (cut_get h1), hc 2 _ (cut_get h2), hc 3 _ (cut_get2 h3), hc 4 _ (cut_get2 h4), hc 5 _ (cut_get2 h5), hc 6 _ (cut_get h6)⟩, trivial⟩
theorem cac_read (b o : Nat) (es : List Value) (hlen : es.length = 1) (hc : ∀ j v, es[j]? = some v → w.cell? ⟨b, o + j, none⟩ = some v) (h : Rds enc Tryd.prog w 92 es) :
    ∃ d : CacD, CacAt w b o d ∧ True := by
  match es, hlen with
  | [e0], _ =>
    obtain ⟨a0, n0, c0, h0, _, _⟩ := (h.at Tryd.underlying92 0 90 0 1 rfl (by kernel_rfl)).slice Tryd.underlying90
    exact ⟨⟨a0, n0, c0⟩, hc 0 _ (cut_get h0), trivial⟩
set_option maxHeartbeats 1000000 in
theorem few_read (cs : Array Value) (h : Rds enc Tryd.prog w 62 cs.toList) : ∃ ll lc lk al ac ak zl zc zk, FewCs w cs ll lc lk al ac ak zl zc zk := by
  have ht := Tryd.underlying62
  obtain ⟨al, ll, zl, k22, l1, l2, l3, _⟩ := (h.at ht 10 46 22 1 rfl (by kernel_rfl)).list (R := LogAt) (Q := fun _ => True) (C := 6) Tryd.underlying46 (by kernel_rfl) (by decide) log_read
  obtain ⟨ac, lc, zc, k39, c1, c2, c3, _⟩ := (h.at ht 14 57 39 1 rfl (by kernel_rfl)).list (R := CliAt) (Q := fun _ => True) (C := 7) Tryd.underlying57 (by kernel_rfl) (by decide) cli_read
  obtain ⟨ak, lk, zk, k5, q1, q2, q3, _⟩ := (h.at ht 2 27 5 1 rfl (by kernel_rfl)).list (R := CacAt) (Q := fun _ => True) (C := 1) Tryd.underlying27 (by kernel_rfl) (by decide) cac_read
  obtain ⟨a36, n36, z36, k36, _⟩ := (h.at ht 12 53 36 1 rfl (by kernel_rfl)).slice Tryd.underlying53
  obtain ⟨a20, n20, z20, k20, _⟩ := (h.at ht 8 45 20 1 rfl (by kernel_rfl)).slice Tryd.underlying45
  obtain ⟨a42, n42, z42, k42, _⟩ := (h.at ht 17 60 42 1 rfl (by kernel_rfl)).slice Tryd.underlying60
  obtain ⟨a40, n40, z40, k40, _⟩ := (h.at ht 15 58 40 1 rfl (by kernel_rfl)).slice Tryd.underlying58
  obtain ⟨a41, n41, z41, k41, _⟩ := (h.at ht 16 59 41 1 rfl (by kernel_rfl)).slice Tryd.underlying59
  obtain ⟨a1, n1, z1, k1, _⟩ := ((h.at ht 1 26 1 4 rfl (by kernel_rfl)).at Tryd.underlying26 0 22 0 1 rfl (by kernel_rfl)).slice Tryd.underlying22
  obtain ⟨a10, n10, z10, k10, _⟩ := ((h.at ht 4 35 7 6 rfl (by kernel_rfl)).at Tryd.underlying35 2 32 3 1 rfl (by kernel_rfl)).slice Tryd.underlying32
  obtain ⟨a11, n11, z11, k11, _⟩ := ((h.at ht 4 35 7 6 rfl (by kernel_rfl)).at Tryd.underlying35 3 33 4 1 rfl (by kernel_rfl)).slice Tryd.underlying33
  obtain ⟨a13, n13, z13, k13, _⟩ := ((h.at ht 5 39 13 2 rfl (by kernel_rfl)).at Tryd.underlying39 0 36 0 1 rfl (by kernel_rfl)).slice Tryd.underlying36
  obtain ⟨a14, n14, z14, k14, _⟩ := ((h.at ht 5 39 13 2 rfl (by kernel_rfl)).at Tryd.underlying39 1 37 1 1 rfl (by kernel_rfl)).slice Tryd.underlying37
  exact ⟨ll, lc, lk, al, ac, ak, zl, zc, zk, get_toList (cut_get k22), get_toList (cut_get k39), get_toList (cut_get k5), l3, c3, q3, Nat.le_trans l1 l2, Nat.le_trans c1 c2, Nat.le_trans q1 q2,
    ⟨_, _, _, get_toList (cut_get k36)⟩, ⟨_, _, _, get_toList (cut_get k20)⟩, ⟨_, _, _, get_toList (cut_get k42)⟩, ⟨_, _, _, get_toList (cut_get k40)⟩, ⟨_, _, _, get_toList (cut_get k41)⟩,
    ⟨_, _, _, get_toList (cut_get2 k1)⟩, ⟨_, _, _, get_toList (cut_get2 k10)⟩, ⟨_, _, _, get_toList (cut_get2 k11)⟩, ⟨_, _, _, get_toList (cut_get2 k13)⟩, ⟨_, _, _, get_toList (cut_get2 k14)⟩⟩
theorem fewCs_ext {w' : World} {cs : Array Value} {ll : List LogD} {lc : List CliD} {lk : List CacD} {al ac ak : Option Addr} {zl zc zk : Nat} (h : FewCs w cs ll lc lk al ac ak zl zc zk) (hE : Ext w w') : FewCs w' cs ll lc lk al ac ak zl zc zk :=
  { h with logsAt := h.logsAt.ext hE, clientsAt := h.clientsAt.ext hE, cachesAt := h.cachesAt.ext hE }
end
end Go.Proofs.YtjjkonaopmipoaaDoor
