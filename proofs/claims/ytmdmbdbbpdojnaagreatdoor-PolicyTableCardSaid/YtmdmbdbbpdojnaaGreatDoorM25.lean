/- Walks: the document's Same, of tables. Policies, in plain Lean: the law's example, reckoned out. No program in sight. Policies, in plain Lean: what the laws say of verdicts: each name alone; better keys; the nearest pattern. No program in sight. Policies, in plain Lean: rules the other way round; a rule more; what clashes. No program in sight. -/
import Derived.Test.YtmdmbdbbpdojnaaGreatDoorM24
import Derived.Test.YtmdmbdbbpdojnaaGreatDoorM12
namespace Go.Proofs.YtmdmbdbbpdojnaaGreatDoor
open Go.RowKit Nam Pol Go.Maps
attribute [local go_sem] gv_of

set_option maxRecDepth 100000 in
set_option maxHeartbeats 4000000 in
theorem r16SameT_any (l1 l2 : List Rul) (m1 m2 : List Nod) (a1 a2 b1 b2 : Option Addr) (c1 c2 d1 d2 n1 n2 k1 k2 : Nat) (w : World) (h1 : l1.length = n1) (h2 : l2.length = n2) (g1 : m1.length = k1) (g2 : m2.length = k2)
    (x1 : n1 ≤ maxLen) (x2 : n2 ≤ maxLen) (y1 : k1 ≤ maxLen) (y2 : k2 ≤ maxLen) (hl1 : Ruls w a1 l1) (hl2 : Ruls w a2 l2) (hm1 : Nods w b1 m1) (hm2 : Nods w b2 m2) :
    Calls Tryz.prog 29 #[.agg #[.slice a1 n1 c1, .slice b1 k1 d1], .agg #[.slice a2 n2 c2, .slice b2 k2 d2]] w (Ret (.bool (decide (l1 = l2) && decide (m1 = m2))) w) := by
  have H1 := Lib.hid h1; have H2 := Lib.hid h2; have G1 := Lib.hid g1; have G2 := Lib.hid g2; have X1 := Lib.hid x1; have X2 := Lib.hid x2; have Y1 := Lib.hid y1; have Y2 := Lib.hid y2
  have L1 := Lib.hid hl1; have L2 := Lib.hid hl2; have M1 := Lib.hid hm1; have M2 := Lib.hid hm2
  clear h1 h2 g1 g2 x1 x2 y1 y2 hl1 hl2 hm1 hm2
  go_enter Tryz.func29, Tryz.ntmps29
  go_upto_region 1 with (fail)
  obtain ⟨W0, hW0⟩ : ∃ W0, (w.alloc (Obj.cells #[.slice a1 n1 c1, .slice b1 k1 d1] 45)).alloc (Obj.cells #[.slice a2 n2 c2, .slice b2 k2 d2] 45) = W0 := ⟨_, rfl⟩
  have hE0 : Ext w W0 := by rw [← hW0]; exact ext_alloc (ext_alloc (Below.refl _ _) _) _
  have t1 : TabB W0 w.heap.size (.slice a1 n1 c1) (.slice b1 k1 d1) := by rw [← hW0]; exact (TabB.new _ _ _).ext (ext_alloc (Below.refl _ _) _)
  have t2 : TabB W0 (w.heap.size + 1) (.slice a2 n2 c2) (.slice b2 k2 d2) := by rw [← hW0]; have := TabB.new (w.alloc (Obj.cells #[.slice a1 n1 c1, .slice b1 k1 d1] 45)) (.slice a2 n2 c2) (.slice b2 k2 d2); rwa [World.size_alloc] at this
  obtain ⟨p0, p1⟩ := t1.cells
  obtain ⟨q0, q1⟩ := t2.cells
  have HE0 := Lib.hid hE0
  rw [hW0]
  clear hW0 hE0 t1 t2
  refine wp_region_P (fun w' => Ext W0 w') (Below.refl _ _) ?_
  repeat
    first
    | (refine steps_and rfl rfl rfl rfl ?_; simp only [Act.put, List.setIfInBounds_toArray, List.set_cons_succ, List.set_cons_zero])
    | (refine steps_or rfl rfl rfl rfl ?_; simp only [Act.put, List.setIfInBounds_toArray, List.set_cons_succ, List.set_cons_zero])
    | (refine steps_skip rfl ?_; simp only [Act.put, List.setIfInBounds_toArray, List.set_cons_succ, List.set_cons_zero])
    | (refine steps_guard_and rfl rfl rfl rfl rfl ?_; simp only [Act.put, List.setIfInBounds_toArray, List.set_cons_succ, List.set_cons_zero])
    | (refine steps_guard (v := ?_) rfl rfl (fun hb w' hS => ?_) ?_; rotate_left; (focus (have e0 := ext_cell p0 hS; have e1 := ext_cell p1 hS; have e2 := ext_cell q0 hS; have e3 := ext_cell q1 hS; unfold Gives; go_simp; first | exact is_mk hS | (refine (r15Same_any l1 l2 a1 a2 c1 c2 n1 n2 _ H1.out H2.out X1.out X2.out ((L1.out.ext HE0.out).ext hS) ((L2.out.ext HE0.out).ext hS)).mono ?_; rintro e w'' ⟨rfl, h2⟩; exact gave_mk (ext_trans hS h2)) | (refine (SameNodes_any m1 m2 b1 b2 d1 d2 k1 k2 _ G1.out G2.out Y1.out Y2.out ((M1.out.ext HE0.out).ext hS) ((M2.out.ext HE0.out).ext hS)).mono ?_; rintro e w'' ⟨rfl, h2⟩; exact gave_mk (ext_trans hS h2)))); simp only [Act.put, List.setIfInBounds_toArray, List.set_cons_succ, List.set_cons_zero])
    | (refine steps_guard2 (v := ?_) rfl rfl rfl (fun hb1 hb w' hS => ?_) ?_; rotate_left; (focus (have e0 := ext_cell p0 hS; have e1 := ext_cell p1 hS; have e2 := ext_cell q0 hS; have e3 := ext_cell q1 hS; unfold Gives; go_simp; first | exact is_mk hS | (refine (r15Same_any l1 l2 a1 a2 c1 c2 n1 n2 _ H1.out H2.out X1.out X2.out ((L1.out.ext HE0.out).ext hS) ((L2.out.ext HE0.out).ext hS)).mono ?_; rintro e w'' ⟨rfl, h2⟩; exact gave_mk (ext_trans hS h2)) | (refine (SameNodes_any m1 m2 b1 b2 d1 d2 k1 k2 _ G1.out G2.out Y1.out Y2.out ((M1.out.ext HE0.out).ext hS) ((M2.out.ext HE0.out).ext hS)).mono ?_; rintro e w'' ⟨rfl, h2⟩; exact gave_mk (ext_trans hS h2)))); simp only [Act.put, List.setIfInBounds_toArray, List.set_cons_succ, List.set_cons_zero])
    | (refine steps_run (v := ?_) rfl (fun w' hS => ?_) ?_; rotate_left; (focus (have e0 := ext_cell p0 hS; have e1 := ext_cell p1 hS; have e2 := ext_cell q0 hS; have e3 := ext_cell q1 hS; unfold Gives; go_simp; first | exact is_mk hS | (refine (r15Same_any l1 l2 a1 a2 c1 c2 n1 n2 _ H1.out H2.out X1.out X2.out ((L1.out.ext HE0.out).ext hS) ((L2.out.ext HE0.out).ext hS)).mono ?_; rintro e w'' ⟨rfl, h2⟩; exact gave_mk (ext_trans hS h2)) | (refine (SameNodes_any m1 m2 b1 b2 d1 d2 k1 k2 _ G1.out G2.out Y1.out Y2.out ((M1.out.ext HE0.out).ext hS) ((M2.out.ext HE0.out).ext hS)).mono ?_; rintro e w'' ⟨rfl, h2⟩; exact gave_mk (ext_trans hS h2)))); simp only [Act.put, List.setIfInBounds_toArray, List.set_cons_succ, List.set_cons_zero])
  refine steps_end fun w' hE' => ?_
  go_wp2_with fail
  go_ret
  exact ⟨rfl, ext_trans HE0.out hE'⟩
end Go.Proofs.YtmdmbdbbpdojnaaGreatDoor
namespace Go.Proofs.YtmdmbdbbpdojnaaGreatDoor
open Pol Nam

def exAll : Rul := ⟨⟨#[97, 108, 108]⟩, true, [⟨#[42, 46, 97]⟩], 0, 50, 0, 0⟩
def exNot : Rul := ⟨⟨#[110, 111, 116]⟩, false, [⟨#[42, 46, 120, 46, 97]⟩], 0, 0, 0, 0⟩
def exOne : Rul := ⟨⟨#[111, 110, 101]⟩, true, [⟨#[121, 46, 120, 46, 97]⟩], 9, 10, 0, 0⟩
def exB : Rul := ⟨⟨#[98]⟩, false, [⟨#[42, 46, 97]⟩], 0, 0, 0, 0⟩
def exL : List Rul := [exAll, exNot, exOne]
def sA : ByteArray := ⟨#[97]⟩
def sBA : ByteArray := ⟨#[98, 46, 97]⟩
def sZXA : ByteArray := ⟨#[122, 46, 120, 46, 97]⟩
def sYXA : ByteArray := ⟨#[121, 46, 120, 46, 97]⟩
def sC : ByteArray := ⟨#[99]⟩
def sDash : ByteArray := ⟨#[45]⟩
def exW1 : Wsh := ⟨0, [sBA, sZXA, sYXA, sA], 9, 10⟩
def exW2 : Wsh := ⟨0, [sBA, sYXA], 9, 10⟩
def exW3 : Wsh := ⟨0, [sYXA], 8, 10⟩
def exW4 : Wsh := ⟨0, [], 0, 0⟩
theorem ex_right : rightE exL = 0 := by decide +kernel
theorem ex_compR : compR exL = exL := by unfold compR; rw [if_pos ex_right]
theorem ex_compN : compN exL = treeOf exL := by unfold compN; rw [if_pos ex_right]
theorem ex_len : (treeOf exL).length = 4 := by decide +kernel
theorem ex_check : checkT exL (treeOf exL) = 0 := check_comp ex_right
theorem ex_check0 : checkT exL [] = 1 := by decide +kernel
theorem ex_decide : decideOf exL (treeOf exL) exW1 = (⟨false, 1, [0, 1, 2, -1]⟩, 0) := by decide +kernel
theorem ex_means2 : meansOf exL exW2 (decP exL) = (⟨true, 0, [0, 2]⟩, 0) := by decide +kernel
theorem ex_means3 : meansOf exL exW3 (decP exL) = (⟨false, 0, [2]⟩, 0) := by decide +kernel
theorem ex_means4 : meansOf exL exW4 (decP exL) = (⟨false, 0, []⟩, 1) := by decide +kernel
theorem ex_clash : clashL [exAll, exNot, exAll] = [(0, 2)] := by decide +kernel
theorem ex_bare : [sA, sBA, sC, sDash].filter (fun s => nmB s && decide (decidesB exL s < 0)) = [sA, sC] := by decide +kernel
theorem ex_clash2 : rightE [exAll, exB] = 160 := by decide +kernel
theorem ex_few : ∀ r ∈ exL, r.pats.length ≤ 1000 := by decide
end Go.Proofs.YtmdmbdbbpdojnaaGreatDoor
namespace Go.Proofs.YtmdmbdbbpdojnaaGreatDoor
open Pol Nam
namespace Pol
/-- The first that f does not take; -1: none. -/
def firstNo {α : Type} (f : α → Bool) (l : List α) : Int := match l.findIdx? (fun x => !f x) with
  | some i => (i : Int)
  | none => -1
theorem firstNo_nil {α : Type} (f : α → Bool) : firstNo f [] = -1 := rfl
theorem firstNo_ge {α : Type} (f : α → Bool) (l : List α) : -1 ≤ firstNo f l ∧ firstNo f l < l.length := by
  unfold firstNo
  cases h : l.findIdx? (fun x => !f x) with
  | none => exact ⟨Int.le_refl _, by show (-1 : Int) < _; omega⟩
  | some i =>
    have := (List.findIdx?_eq_some_iff_getElem.1 h).1
    exact ⟨by show (-1 : Int) ≤ (i : Int); omega, by show (i : Int) < _; omega⟩
theorem firstNo_neg {α : Type} (f : α → Bool) (l : List α) : decide (firstNo f l < 0) = l.all f := by
  unfold firstNo
  cases h : l.findIdx? (fun x => !f x) with
  | none =>
    rw [List.findIdx?_eq_none_iff] at h
    rw [show l.all f = true from List.all_eq_true.2 fun x hx => by simpa using h x hx]; rfl
  | some i =>
    obtain ⟨h1, h2, _⟩ := List.findIdx?_eq_some_iff_getElem.1 h
    rw [show l.all f = false by
      rw [Bool.eq_false_iff]; intro ha
      rw [List.all_eq_true.1 ha _ (List.getElem_mem h1)] at h2; simp at h2]
    simp
theorem firstNo_snoc {α : Type} (f : α → Bool) (l : List α) (x : α) : firstNo f (l ++ [x]) = if firstNo f l < 0 ∧ f x = false then (l.length : Int) else firstNo f l := by
  unfold firstNo
  rw [List.findIdx?_append]
  cases h : l.findIdx? (fun x => !f x) with
  | none =>
    rw [Option.none_or]
    cases hx : f x
    · rw [if_pos ⟨by simp, rfl⟩]; simp [List.findIdx?_cons, hx]
    · rw [if_neg (by simp)]; simp [List.findIdx?_cons, hx]
  | some i => rw [Option.some_or, if_neg (by simp; omega)]
/-- A verdict, by its parts. -/
def verQ (l : List Rul) (v : Wsh) (d : ByteArray → Int) (ns : List ByteArray) : Ver := ⟨ns.all fun s => okOf l v (d s), max (firstNo (fun s => okOf l v (d s)) ns) 0, ns.map d⟩
theorem verQ_snoc (l : List Rul) (v : Wsh) (d : ByteArray → Int) (ns : List ByteArray) (s : ByteArray) : vStep l v d (verQ l v d ns) s = verQ l v d (ns ++ [s]) := by
  unfold vStep verQ
  rw [ver_eq]
  refine ⟨by simp, ?_, by simp⟩
  simp only [List.length_map]
  rw [firstNo_snoc]
  have h1 := firstNo_neg (fun s => okOf l v (d s)) ns
  have h2 := firstNo_ge (fun s => okOf l v (d s)) ns
  cases ha : ns.all fun s => okOf l v (d s) with
  | true =>
    rw [ha] at h1
    have h1' := of_decide_eq_true h1
    cases hx : okOf l v (d s)
    · rw [if_pos (by decide), if_pos ⟨h1', rfl⟩]; omega
    · rw [if_neg (by simp), if_neg (by simp)]
  | false =>
    rw [ha] at h1
    have h1' := of_decide_eq_false h1
    rw [if_neg (by simp), if_neg (by simp [h1'])]
theorem verdict_fold (l : List Rul) (v : Wsh) (d : ByteArray → Int) : ∀ (ns pre : List ByteArray), ns.foldl (vStep l v d) (verQ l v d pre) = verQ l v d (pre ++ ns)
  | [], pre => by simp
  | s :: ns, pre => by rw [List.foldl_cons, verQ_snoc, verdict_fold l v d ns (pre ++ [s]), List.append_assoc]; rfl
theorem verdictOf_eq (l : List Rul) (v : Wsh) (d : ByteArray → Int) : verdictOf l v d = ⟨v.names.all fun s => okOf l v (d s), max (firstNo (fun s => okOf l v (d s)) v.names) 0, v.names.map d⟩ := verdict_fold l v d v.names []
theorem means_ok {l : List Rul} {v : Wsh} {d : ByteArray → Int} (h : (meansOf l v d).2 = 0) : rightE l = 0 ∧ mayB v = true := by
  unfold meansOf at h
  split at h
  · rename_i hr
    split at h
    · rename_i hm; exact ⟨hr, hm⟩
    · cases h
  · rename_i hr; exact absurd h hr
theorem means_of {l : List Rul} {v : Wsh} {d : ByteArray → Int} (hr : rightE l = 0) (hm : mayB v = true) : meansOf l v d = (verdictOf l v d, 0) := by
  unfold meansOf; rw [if_pos hr, if_pos hm]
theorem means_bad {l : List Rul} {v : Wsh} {d : ByteArray → Int} (h : (meansOf l v d).2 ≠ 0) : (meansOf l v d).1 = zeroV := by
  unfold meansOf at h ⊢
  split
  · rename_i hr
    rw [if_pos hr] at h
    split
    · rename_i hm; rw [if_pos hm] at h; exact absurd rfl h
    · rfl
  · rfl
theorem okOf_neg {l : List Rul} {v : Wsh} {k : Int} (h : k < 0) : okOf l v k = false := by
  unfold okOf
  split
  · rw [decide_eq_false (by omega)]; rfl
  · rfl
theorem may_parts {v : Wsh} : mayB v = true ↔ listOk nmB [] v.names = true ∧ 0 ≤ v.account ∧ v.account ≤ 1099511627776 ∧ 0 ≤ v.life ∧ v.life ≤ 1099511627776 ∧ 1 ≤ v.names.length ∧ v.names.length ≤ 8 := by
  unfold mayB
  simp only [Bool.and_eq_true, decide_eq_true_eq, and_assoc]
/-- Each name alone. -/
theorem one_may {v : Wsh} {s : ByteArray} (h : mayB v = true) (hs : s ∈ v.names) : mayB { v with names := [s] } = true := by
  have hn := may_names h s hs
  obtain ⟨_, h2, h3, h4, h5, _, _⟩ := may_parts.1 h
  exact may_parts.2 ⟨by simp [listOk, nmB, hn, memB], h2, h3, h4, h5, by simp, by simp⟩
theorem one_means {l : List Rul} {v : Wsh} {d : ByteArray → Int} {s : ByteArray} (hr : rightE l = 0) (h : mayB v = true) (hs : s ∈ v.names) :
    meansOf l { v with names := [s] } d = (⟨okOf l v (d s), 0, [d s]⟩, 0) := by
  rw [means_of hr (one_may h hs), verdictOf_eq]
  have e : okOf l { v with names := [s] } (d s) = okOf l v (d s) := rfl
  rw [Prod.mk.injEq, ver_eq]
  refine ⟨⟨by simp [e], ?_, rfl⟩, rfl⟩
  show max (firstNo (fun s' => okOf l v (d s')) [s]) 0 = 0
  have := firstNo_ge (fun s' => okOf l v (d s')) [s]
  simp at this; omega
/-- A better key, a shorter life. -/
theorem life_may {v : Wsh} {n : Int} {k : Int} (h : mayB v = true) (h0 : 0 ≤ n) (h1 : n ≤ v.life) : mayB { v with life := n, key := k } = true := by
  obtain ⟨g1, h2, h3, h4, h5, h6, h7⟩ := may_parts.1 h
  exact may_parts.2 ⟨g1, h2, h3, h0, by show n ≤ _; omega, h6, h7⟩
theorem life0_none {l : List Rul} {v : Wsh} {d : ByteArray → Int} (h : mayB v = true) (h0 : v.life = 0) : (verdictOf l v d).allow = false := by
  obtain ⟨_, _, _, _, _, h6, _⟩ := may_parts.1 h
  rw [verdictOf_eq]
  show (v.names.all fun s => okOf l v (d s)) = false
  rw [Bool.eq_false_iff]; intro ha
  have hx := List.all_eq_true.1 ha v.names[0] (List.getElem_mem _)
  unfold okOf at hx
  rw [h0] at hx
  split at hx <;> simp at hx
theorem ok_ease {l : List Rul} {v : Wsh} {k : Int} {x y : Int} (h : okOf l v k = true) (hx : v.key ≤ x) (h1 : 1 ≤ y) (h2 : y ≤ v.life) : okOf l { v with key := x, life := y } k = true := by
  unfold okOf at h ⊢
  split at h
  · rename_i r hr
    simp only [Bool.and_eq_true, decide_eq_true_eq] at h ⊢
    exact ⟨⟨⟨⟨h.1.1.1.1, h.1.1.1.2⟩, by omega⟩, h1⟩, by omega⟩
  · cases h
theorem ease {l : List Rul} {v : Wsh} {d : ByteArray → Int} {x y : Int} (h : (verdictOf l v d).allow = true) (hx : v.key ≤ x) (h1 : 1 ≤ y) (h2 : y ≤ v.life) :
    (verdictOf l { v with key := x, life := y } d).allow = true ∧ (verdictOf l { v with key := x, life := y } d).by' = (verdictOf l v d).by' := by
  rw [verdictOf_eq] at h
  rw [verdictOf_eq, verdictOf_eq]
  refine ⟨?_, rfl⟩
  refine List.all_eq_true.2 fun s hs => ?_
  exact ok_ease (List.all_eq_true.1 h s hs) hx h1 h2
/-- The nearest pattern: does pattern p of a rule match, and is it within all that do? -/
def nearP (l : List Rul) (nm p : ByteArray) : Bool := rmatchB p.data.toList nm.data.toList && l.all fun r => r.pats.all fun q => !rmatchB q.data.toList nm.data.toList || rwithinB p.data.toList q.data.toList
def nearB (l : List Rul) (nm : ByteArray) (k : Int) : Bool :=
  if k < 0 then l.all fun r => r.pats.all fun p => !rmatchB p.data.toList nm.data.toList
  else match l[k.toNat]? with
    | some r => r.pats.any (nearP l nm)
    | none => false
theorem near_dec {l : List Rul} {nm : ByteArray} (hs : isB nm.data.toList = true) : nearB l nm (decP l nm) = true := by
  unfold nearB
  rcases decP_spec (l := l) hs with ⟨h1, h2⟩ | ⟨k, r, p, h1, h2, h3, h4, h5, _⟩
  · rw [h1, if_pos (by decide)]
    refine List.all_eq_true.2 fun r hr => List.all_eq_true.2 fun p hp => ?_
    rw [h2 r hr p hp]; rfl
  · rw [h1, if_neg (by omega), Int.toNat_natCast, h2]
    refine List.any_eq_true.2 ⟨p, h3, ?_⟩
    unfold nearP
    rw [h4, Bool.true_and]
    refine List.all_eq_true.2 fun r' hr' => List.all_eq_true.2 fun q hq => ?_
    cases hm : rmatchB q.data.toList nm.data.toList
    · rfl
    · rw [h5 r' hr' q hq hm]; rfl
theorem decP_range {l : List Rul} {nm : ByteArray} (hs : isB nm.data.toList = true) : -1 ≤ decP l nm ∧ decP l nm < l.length := by
  rcases decP_spec (l := l) hs with ⟨h1, _⟩ | ⟨k, r, p, h1, h2, _⟩
  · rw [h1]; omega
  · rw [h1]; have := (List.getElem?_eq_some_iff.1 h2).1; omega
end Pol
end Go.Proofs.YtmdmbdbbpdojnaaGreatDoor
namespace Go.Proofs.YtmdmbdbbpdojnaaGreatDoor
open Pol Nam
namespace Pol
theorem rulesOk_iff {l : List Rul} : rulesOk [] l = true ↔ (l.map (·.name)).Nodup ∧ ∀ r ∈ l, formB r = true :=
  ⟨fun h => ⟨(rulesOk_spec h).1, fun r hr => ((rulesOk_spec h).2 r hr).1⟩, fun ⟨h1, h2⟩ => rulesOk_of h1 fun r hr => ⟨h2 r hr, by simp⟩⟩
theorem nodup_rev {α : Type} {l : List α} : l.reverse.Nodup ↔ l.Nodup := by
  unfold List.Nodup
  rw [List.pairwise_reverse]
  exact ⟨fun h => h.imp fun h e => h e.symm, fun h => h.imp fun h e => h e.symm⟩
theorem rulesOk_reverse (l : List Rul) : rulesOk [] l.reverse = rulesOk [] l := by
  rw [Bool.eq_iff_iff, rulesOk_iff, rulesOk_iff, List.map_reverse, nodup_rev]
  simp
theorem checkE_reverse (l : List Rul) : checkE l.reverse = checkE l := by
  unfold checkE; rw [rulesOk_reverse, List.length_reverse]
theorem bothAt_comm (l : List Rul) (i k : Nat) : bothAt l i k = bothAt l k i := by
  rw [Bool.eq_iff_iff, bothAt_iff, bothAt_iff]
  exact ⟨fun ⟨x, y, p, a, b, c, d⟩ => ⟨y, x, p, b, a, d, c⟩, fun ⟨x, y, p, a, b, c, d⟩ => ⟨y, x, p, b, a, d, c⟩⟩
theorem bothAt_reverse {l : List Rul} {i k : Nat} (hi : i < l.length) (hk : k < l.length) : bothAt l.reverse i k = bothAt l (l.length - 1 - i) (l.length - 1 - k) := by
  unfold bothAt
  rw [List.getElem?_reverse hi, List.getElem?_reverse hk]
theorem bothAt_lt {l : List Rul} {i k : Nat} (h : bothAt l i k = true) : i < l.length ∧ k < l.length := by
  obtain ⟨x, y, p, hx, hy, _⟩ := bothAt_iff.1 h
  exact ⟨(List.getElem?_eq_some_iff.1 hx).1, (List.getElem?_eq_some_iff.1 hy).1⟩
theorem sorted_nodup {l : List (Nat × Nat)} (h : l.Pairwise lexlt) : l.Nodup := h.imp fun {a b} hab e => by subst e; exact lexlt_asymm hab hab
theorem clash_reverse (l : List Rul) : (clashL l.reverse).length = (clashL l).length := by
  have key : (clashL l.reverse).Perm ((clashL l).map fun q => (l.length - 1 - q.2, l.length - 1 - q.1)) := by
    refine (List.perm_ext_iff_of_nodup (sorted_nodup (clash_sorted _)) ?_).2 fun q => ?_
    · refine List.Pairwise.map _ ?_ (List.Pairwise.and_mem.1 (sorted_nodup (clash_sorted l)))
      rintro a b ⟨ha, hb, hne⟩ e
      have h1 := mem_clash.1 ha; have h2 := mem_clash.1 hb
      have l1 := bothAt_lt h1.2; have l2 := bothAt_lt h2.2
      simp only [Prod.mk.injEq] at e
      exact hne (Prod.ext (by omega) (by omega))
    · rw [List.mem_map]
      constructor
      · intro h
        obtain ⟨h1, h2⟩ := mem_clash.1 h
        obtain ⟨l1, l2⟩ := bothAt_lt h2
        rw [List.length_reverse] at l1 l2
        rw [bothAt_reverse l1 l2, bothAt_comm] at h2
        exact ⟨(l.length - 1 - q.2, l.length - 1 - q.1), mem_clash.2 ⟨by show _ < _; omega, h2⟩, Prod.ext (by show l.length - 1 - (l.length - 1 - q.1) = _; omega) (by show l.length - 1 - (l.length - 1 - q.2) = _; omega)⟩
      · rintro ⟨p, hp, rfl⟩
        obtain ⟨h1, h2⟩ := mem_clash.1 hp
        obtain ⟨l1, l2⟩ := bothAt_lt h2
        refine mem_clash.2 ⟨by show l.length - 1 - p.2 < l.length - 1 - p.1; omega, ?_⟩
        show bothAt l.reverse (l.length - 1 - p.2) (l.length - 1 - p.1) = true
        rw [bothAt_reverse (by omega) (by omega), show l.length - 1 - (l.length - 1 - p.2) = p.2 by omega, show l.length - 1 - (l.length - 1 - p.1) = p.1 by omega, bothAt_comm]
        exact h2
  have := key.length_eq
  rwa [List.length_map] at this
theorem rightE_reverse (l : List Rul) : rightE l.reverse = rightE l := by
  unfold rightE
  rw [checkE_reverse]
  have := clash_reverse l
  cases h1 : clashL l with
  | nil =>
    rw [h1] at this
    rw [List.length_eq_zero_iff.1 this]
  | cons a m =>
    rw [h1] at this
    have : clashL l.reverse ≠ [] := fun e => by rw [e] at this; simp at this
    rw [if_neg this, if_neg (show ¬ (a :: m = []) by simp)]
/-- No pattern lies in two rules. -/
theorem right_apart {l : List Rul} (h : rightE l = 0) {i k : Nat} {x y : Rul} {p : ByteArray} (hx : l[i]? = some x) (hy : l[k]? = some y) (hpx : p ∈ x.pats) (hpy : p ∈ y.pats) : i = k := by
  have hc : clashL l = [] := by
    unfold rightE at h
    split at h
    · split at h
      · assumption
      · cases h
    · rename_i hne; exact absurd h hne
  have hb : bothAt l i k = true := bothAt_iff.2 ⟨x, y, p, hx, hy, hpx, hpy⟩
  rcases Nat.lt_trichotomy i k with hlt | he | hlt
  · have := mem_clash.2 (show (i, k).1 < (i, k).2 ∧ bothAt l (i, k).1 (i, k).2 = true from ⟨hlt, hb⟩)
    rw [hc] at this; cases this
  · exact he
  · have := mem_clash.2 (show (k, i).1 < (k, i).2 ∧ bothAt l (k, i).1 (k, i).2 = true from ⟨hlt, by rw [bothAt_comm]; exact hb⟩)
    rw [hc] at this; cases this
/-- The number that a rule has the other way round. -/
def flipI (n : Nat) (k : Int) : Int := if 0 ≤ k then (n : Int) - 1 - k else -1
theorem dec_reverse {l : List Rul} (h : rightE l = 0) {nm : ByteArray} (hs : isB nm.data.toList = true) : decP l.reverse nm = flipI l.length (decP l nm) := by
  refine (decP_spec hs).unique ?_
  unfold flipI
  rcases decP_spec (l := l) hs with ⟨h1, h2⟩ | ⟨k, r, p, h1, h2, h3, h4, h5, h6⟩
  · rw [h1, if_neg (by decide)]
    exact .inl ⟨rfl, fun r hr => h2 r (List.mem_reverse.1 hr)⟩
  · have hk := (List.getElem?_eq_some_iff.1 h2).1
    rw [h1, if_pos (by omega)]
    refine .inr ⟨l.length - 1 - k, r, p, by omega, ?_, h3, h4, fun r' hr' => h5 r' (List.mem_reverse.1 hr'), fun j r' hj hr' hp => ?_⟩
    · rw [List.getElem?_reverse (by omega), show l.length - 1 - (l.length - 1 - k) = k by omega]; exact h2
    · rw [List.getElem?_reverse (by omega)] at hr'
      have := right_apart h h2 hr' h3 hp
      omega
theorem ok_reverse {l : List Rul} {v : Wsh} {k : Int} (h0 : -1 ≤ k) (h1 : k < l.length) : okOf l.reverse v (flipI l.length k) = okOf l v k := by
  unfold flipI
  split
  · rename_i hk
    unfold okOf
    rw [List.getElem?_reverse (by omega), show l.length - 1 - ((l.length : Int) - 1 - k).toNat = k.toNat by omega]
    split
    · rw [decide_eq_true (show (0 : Int) ≤ (l.length : Int) - 1 - k by omega), decide_eq_true hk]
    · rfl
  · rw [okOf_neg (by decide), okOf_neg (by omega)]
theorem all_congr {α : Type} {f g : α → Bool} : ∀ {l : List α}, (∀ x ∈ l, f x = g x) → l.all f = l.all g
  | [], _ => rfl
  | x :: l, h => by rw [List.all_cons, List.all_cons, h x (by simp), all_congr fun y hy => h y (List.mem_cons_of_mem _ hy)]
theorem findIdx_congr {α : Type} {f g : α → Bool} : ∀ {l : List α}, (∀ x ∈ l, f x = g x) → l.findIdx? f = l.findIdx? g
  | [], _ => rfl
  | x :: l, h => by rw [List.findIdx?_cons, List.findIdx?_cons, h x (by simp), findIdx_congr fun y hy => h y (List.mem_cons_of_mem _ hy)]
theorem firstNo_congr {α : Type} {f g : α → Bool} {l : List α} (h : ∀ x ∈ l, f x = g x) : firstNo f l = firstNo g l := by
  unfold firstNo; rw [findIdx_congr fun x hx => by rw [h x hx]]
/-- NO ORDER MAKES A DIFFERENCE. -/
theorem means_reverse (l : List Rul) (v : Wsh) : (meansOf l.reverse v (decP l.reverse)).2 = (meansOf l v (decP l)).2 ∧ (meansOf l.reverse v (decP l.reverse)).1 = ⟨(meansOf l v (decP l)).1.allow, (meansOf l v (decP l)).1.at', (meansOf l v (decP l)).1.by'.map (flipI l.length)⟩ := by
  unfold meansOf
  rw [rightE_reverse]
  split
  · rename_i hr
    split
    · rename_i hm
      refine ⟨rfl, ?_⟩
      have hd : ∀ s ∈ v.names, decP l.reverse s = flipI l.length (decP l s) := fun s hs => dec_reverse hr (may_names hm s hs)
      have ho : ∀ s ∈ v.names, okOf l.reverse v (decP l.reverse s) = okOf l v (decP l s) := fun s hs => by
        rw [hd s hs]
        have := decP_range (l := l) (may_names hm s hs)
        exact ok_reverse this.1 this.2
      show verdictOf l.reverse v (decP l.reverse) = _
      simp only [verdictOf_eq]
      rw [ver_eq]
      refine ⟨all_congr ho, by rw [firstNo_congr ho], ?_⟩
      simp only [List.map_map]
      exact List.map_congr_left hd
    · exact ⟨rfl, rfl⟩
  · exact ⟨rfl, rfl⟩
/-- A rule more. -/
theorem more_right {l : List Rul} {r : Rul} (h : rightE (l ++ [r]) = 0) : rightE l = 0 := by
  obtain ⟨h1, h2⟩ : checkE (l ++ [r]) = 0 ∧ clashL (l ++ [r]) = [] := by
    unfold rightE at h
    split at h
    · rename_i hc
      split at h
      · rename_i hn; exact ⟨hc, hn⟩
      · cases h
    · rename_i hne; exact absurd h hne
  have hg : ∀ {i : Nat} {x : Rul}, l[i]? = some x → (l ++ [r])[i]? = some x := fun {i x} hx => by
    rw [List.getElem?_append_left (List.getElem?_eq_some_iff.1 hx).1]; exact hx
  have c1 : checkE l = 0 := by
    obtain ⟨a, b⟩ := checkE_ok h1
    obtain ⟨c, d⟩ := rulesOk_iff.1 a
    unfold checkE
    rw [if_pos (rulesOk_iff.2 ⟨by rw [List.map_append] at c; exact (List.nodup_append.1 c).1, fun x hx => d x (List.mem_append_left _ hx)⟩), if_pos (by simp at b; omega)]
  have c2 : clashL l = [] := by
    rw [List.eq_nil_iff_forall_not_mem]
    intro q hq
    obtain ⟨a, b⟩ := mem_clash.1 hq
    obtain ⟨x, y, p, hx, hy, hpx, hpy⟩ := bothAt_iff.1 b
    have := (mem_clash (l := l ++ [r]) (q := q)).2 ⟨a, bothAt_iff.2 ⟨x, y, p, hg hx, hg hy, hpx, hpy⟩⟩
    rw [h2] at this; cases this
  unfold rightE; rw [if_pos c1, if_pos c2]
theorem more_dec {l : List Rul} {r : Rul} (h : rightE (l ++ [r]) = 0) {nm : ByteArray} (hs : isB nm.data.toList = true) :
    ((r.pats.any fun p => rmatchB p.data.toList nm.data.toList) = false → decP (l ++ [r]) nm = decP l nm) ∧
    ((r.pats.any fun p => p.toList == nm.toList) = true → decP (l ++ [r]) nm = (l.length : Int)) ∧
    (decP (l ++ [r]) nm ≠ decP l nm → decP (l ++ [r]) nm = (l.length : Int)) := by
  have hlast : (l ++ [r])[l.length]? = some r := by simp
  have hself : rmatchB nm.data.toList nm.data.toList = true := by rw [rmatch_name hs, hs]; simp
  rcases decP_spec (l := l ++ [r]) hs with ⟨h1, h2⟩ | ⟨k, x, p, h1, h2, h3, h4, h5, h6⟩
  · have e : decP l nm = -1 := ((decP_spec hs).unique (.inl ⟨rfl, fun x hx => h2 x (List.mem_append_left _ hx)⟩))
    rw [h1, e]
    refine ⟨fun _ => rfl, fun ho => ?_, fun hne => absurd rfl hne⟩
    obtain ⟨q, hq, hqe⟩ := List.any_eq_true.1 ho
    rw [beq_iff_eq, Lib.toList_data, Lib.toList_data] at hqe
    have := h2 r (by simp) q hq
    rw [hqe, hself] at this; cases this
  · have hk := (List.getElem?_eq_some_iff.1 h2).1
    rw [List.length_append, List.length_singleton] at hk
    by_cases hkl : k = l.length
    · subst hkl
      rw [hlast] at h2; cases h2
      refine ⟨fun hm => ?_, fun _ => h1, fun _ => h1⟩
      rw [Bool.eq_false_iff] at hm
      exact absurd (List.any_eq_true.2 ⟨p, h3, h4⟩) hm
    · have hx : l[k]? = some x := by rwa [List.getElem?_append_left (by omega)] at h2
      have e : decP l nm = (k : Int) := ((decP_spec hs).unique (.inr ⟨k, x, p, rfl, hx, h3, h4, fun r' hr' => h5 r' (List.mem_append_left _ hr'), fun j r' hj hr' => h6 j r' hj (by rw [List.getElem?_append_left (by omega)]; exact hr')⟩))
      rw [h1, e]
      refine ⟨fun _ => rfl, fun ho => ?_, fun hne => absurd rfl hne⟩
      obtain ⟨q, hq, hqe⟩ := List.any_eq_true.1 ho
      rw [beq_iff_eq, Lib.toList_data, Lib.toList_data] at hqe
      have hq2 := bytes_eq hqe
      subst hq2
      have w1 := h5 r (by simp) q hq hself
      have w2 : rwithinB q.data.toList p.data.toList = true := by rw [rwithin_name hs (match_pat h4)]; exact h4
      have hpq : p = q := bytes_eq (within_anti w1 w2)
      subst hpq
      have := right_apart h h2 hlast h3 hq
      omega
end Pol
end Go.Proofs.YtmdmbdbbpdojnaaGreatDoor
