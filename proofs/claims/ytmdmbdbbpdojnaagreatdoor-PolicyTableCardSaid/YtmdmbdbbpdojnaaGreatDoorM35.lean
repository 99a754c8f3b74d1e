/- Walk: the law PolicyTable. -/
import Derived.Test.YtmdmbdbbpdojnaaGreatDoorM34
import Derived.Test.YtmdmbdbbpdojnaaGreatDoorM26
import Derived.Test.YtmdmbdbbpdojnaaGreatDoorM24
import Derived.Test.YtmdmbdbbpdojnaaGreatDoorM15
import Derived.Test.YtmdmbdbbpdojnaaGreatDoorM21
import Derived.Test.YtmdmbdbbpdojnaaGreatDoorM32
import Derived.Deep.AppendLies
import Derived.Deep.RegionHeld3
namespace Go.Proofs.YtmdmbdbbpdojnaaGreatDoor
open Go.RowKit Nam Pol Go.Maps
attribute [local go_sem] gv_of

/-- How often each of the first q numbers stands there, as cells. -/
def cntRow (q : Nat) (ks : List Int) : List Value := (List.range q).map fun j => .int .i64 (cnt ks j)
theorem cntRow_at {q : Nat} {ks : List Int} {j : Nat} (h : j < q) : (cntRow q ks)[j]? = some (.int .i64 (cnt ks j)) := by
  unfold cntRow; simp [h]
theorem cntRow_len (q : Nat) (ks : List Int) : (cntRow q ks).length = q := by simp [cntRow]
theorem cntRow_set {q : Nat} {ks : List Int} {m : Nat} : (cntRow q ks).set m (.int .i64 (cnt ks m + 1)) = cntRow q (ks ++ [(m : Int)]) := by
  apply List.ext_getElem?
  intro j
  rw [List.getElem?_set, cntRow_len]
  by_cases hj : j < q
  · rw [cntRow_at hj, cntRow_at hj, cnt_snoc]
    by_cases h : m = j
    · subst h; simp [hj]
    · simp [h]
  · by_cases h : m = j
    · subst h; simp [hj, cntRow]
    · simp [h, hj, cntRow]
theorem cntRow_zero (q : Nat) : (madeCells (Value.int .i64 0).cells (q * 1)).toList = cntRow q [] := by
  unfold madeCells cntRow
  simp [Value.cells, Nat.mod_one, cnt_nil]
theorem mask_range (x : Int) : ∃ k : Nat, bits .and .i64 x 65535 = (k : Int) ∧ k ≤ 65535 := by
  have h : (BitVec.ofInt 64 x &&& BitVec.ofInt 64 65535).toNat ≤ 65535 := by rw [BitVec.toNat_and]; exact Nat.and_le_right
  refine ⟨(BitVec.ofInt 64 x &&& BitVec.ofInt 64 65535).toNat, ?_, h⟩
  show IntKind.wrap .i64 ((BitVec.ofInt 64 x &&& BitVec.ofInt 64 65535).toNat : Int) = _
  generalize (BitVec.ofInt 64 x &&& BitVec.ofInt 64 65535).toNat = n at h
  unfold IntKind.wrap
  simp [IntKind.signed, IntKind.bits]
  omega
theorem forms_all : ∀ {l : List Rul} {a : List ByteArray}, rulesOk a l = true → ∀ r ∈ l, formB r = true
  | [], _, _, r, hr => by cases hr
  | x :: l, a, h, r, hr => by
    rw [rulesOk, Bool.and_eq_true, Bool.and_eq_true] at h
    rcases List.mem_cons.1 hr with rfl | hr
    · exact h.1.1
    · exact forms_all h.2 r hr
theorem pats_rpat : ∀ {a ps : List ByteArray}, patsOk a ps = true → ∀ p ∈ ps, rpatB p.data.toList = true
  | _, [], _, p, hp => by cases hp
  | a, x :: l, h, p, hp => by
    unfold patsOk at h
    rw [Bool.and_eq_true, Bool.and_eq_true] at h
    rcases List.mem_cons.1 hp with rfl | hp
    · rw [← pattern_ok]; exact h.1.1
    · exact pats_rpat h.2 p hp
theorem putAll_len : ∀ {ps : List ByteArray} {ns : List Nod} {i : Int}, (∀ p ∈ ps, rpatB p.data.toList = true) → (putAll ns ps i).length ≤ ns.length + 8 * ps.length
  | [], ns, i, _ => by simp [putAll]
  | p :: ps, ns, i, h => by
    show (putAll (putT ns p i) ps i).length ≤ _
    have h1 := putAll_len (ns := putT ns p i) (i := i) fun q hq => h q (List.mem_cons_of_mem _ hq)
    have h2 := put_len (ns := ns) (h p (by simp)) i
    simp only [List.length_cons]; omega
theorem tree_bound {l : List Rul} (h : rightE l = 0) : (treeOf l).length ≤ 2049 := by
  have hc := (rightE_iff.1 h).ok
  have hok : rulesOk [] l = true ∧ l.length ≤ 32 := by
    unfold checkE at hc
    split at hc
    · next h1 =>
      split at hc
      · next h2 => exact ⟨h1, h2⟩
      · cases hc
    · cases hc
  have key : ∀ k, (treeTo l k).length ≤ 1 + 64 * k := fun k => by
    induction k with
    | zero => simp [treeTo]
    | succ k ih =>
      unfold treeTo
      split
      · omega
      · next r hr =>
        have hf := forms_all hok.1 r (List.mem_of_getElem? hr)
        unfold formB at hf
        simp only [Bool.and_eq_true, decide_eq_true_eq] at hf
        have := putAll_len (ns := treeTo l k) (i := (k : Int)) (pats_rpat hf.1.2)
        have := hf.1.1.2.2
        omega
  have := key l.length
  unfold treeOf; omega
theorem sl_cssF {α : Type} {m : Nat} {R : ElR α} {W : World} {F : List Value → α → Prop} (hF : ∀ cs x, F cs x → cs.length = m ∧ ∀ c ∈ cs, c.oneCell' = true) (hcs : ∀ b o x, R W b o x → ∃ cs, F cs x ∧ ∀ (j : Nat) (u : Value), cs[j]? = some u → W.cell? ⟨b, o + j, none⟩ = some u) {a : Option Addr} : ∀ {l : List α}, SlA m R W a l →
    ∃ css : List (List Value), css.length = l.length ∧ (∀ (i : Nat) (cs : List Value) (x : α), css[i]? = some cs → l[i]? = some x → F cs x) ∧ css.flatten.length = l.length * m ∧ (∀ u ∈ css.flatten, u.oneCell' = true) ∧
      ∀ p, a = some p → ∀ (j : Nat) (u : Value), css.flatten[j]? = some u → W.cell? (p.add j) = some u := by
  intro l hl
  have key : ∀ k, k ≤ l.length → ∃ css : List (List Value), css.length = k ∧ ∀ (i : Nat) (cs : List Value) (x : α), css[i]? = some cs → l[i]? = some x → F cs x ∧ ∀ b o, a = some ⟨b, o, none⟩ → ∀ (j : Nat) (u : Value), cs[j]? = some u → W.cell? ⟨b, o + i * m + j, none⟩ = some u := fun k => by
    induction k with
    | zero => exact fun _ => ⟨[], rfl, fun i cs x h => by simp at h⟩
    | succ k ih =>
      intro hk
      obtain ⟨css, h1, h2⟩ := ih (by omega)
      obtain ⟨x, hx⟩ := get_some (l := l) rfl (show k < l.length by omega)
      obtain ⟨b, off, ha, hR⟩ := hl k x hx
      obtain ⟨cs, hc1, hc2⟩ := hcs _ _ x hR
      refine ⟨css ++ [cs], by simp [h1], fun i c y hc hy => ?_⟩
      by_cases hi : i < k
      · rw [List.getElem?_append_left (by omega)] at hc
        exact h2 i c y hc hy
      · rw [List.getElem?_append_right (by omega)] at hc
        have hi2 := (List.getElem?_eq_some_iff.1 hc).1
        simp only [List.length_cons, List.length_nil] at hi2
        obtain rfl : i = k := by omega
        rw [h1, Nat.sub_self] at hc
        rw [hx] at hy
        obtain rfl : cs = c := by simpa using hc
        cases hy
        refine ⟨hc1, fun b' o' hb j u hu => ?_⟩
        rw [ha] at hb
        cases hb
        exact hc2 j u hu
  obtain ⟨css, h1, h2⟩ := key l.length (Nat.le_refl _)
  have hm : ∀ c ∈ css, c.length = m := fun c hc => by
    obtain ⟨k, hk⟩ := List.getElem?_of_mem hc
    obtain ⟨y, hy⟩ := get_some h1.symm (List.getElem?_eq_some_iff.1 hk).1
    exact (hF _ _ (h2 k c y hk hy).1).1
  have hlen : ∀ (cs : List (List Value)), (∀ c ∈ cs, c.length = m) → cs.flatten.length = cs.length * m := fun cs => by
    induction cs with
    | nil => intro _; simp
    | cons c cs ih => intro h; rw [List.flatten_cons, List.length_append, ih (fun c hc => h c (List.mem_cons_of_mem _ hc)), h c (List.mem_cons_self ..), List.length_cons, Nat.succ_mul]; omega
  refine ⟨css, h1, fun i cs x hc hx => (h2 i cs x hc hx).1, by rw [hlen css hm, h1], fun u hu => ?_, fun p hp j u hu => ?_⟩
  · obtain ⟨c, hc, hu⟩ := List.mem_flatten.1 hu
    obtain ⟨k, hk⟩ := List.getElem?_of_mem hc
    obtain ⟨y, hy⟩ := get_some h1.symm (List.getElem?_eq_some_iff.1 hk).1
    exact (hF _ _ (h2 k c y hk hy).1).2 u hu
  · have hj : j < l.length * m := by rw [← h1, ← hlen css hm]; exact (List.getElem?_eq_some_iff.1 hu).1
    have hm0 : 0 < m := by cases m with | zero => omega | succ _ => omega
    obtain ⟨q, i, rfl, hi⟩ : ∃ q i, j = q * m + i ∧ i < m := ⟨j / m, j % m, by rw [Nat.mul_comm]; exact (Nat.div_add_mod j m).symm, Nat.mod_lt _ hm0⟩
    have hq : q < l.length := Nat.lt_of_mul_lt_mul_right (Nat.lt_of_le_of_lt (Nat.le_add_right _ i) hj)
    obtain ⟨x, hx⟩ := get_some (l := l) rfl hq
    obtain ⟨cs, hcs'⟩ := get_some h1 hq
    obtain ⟨b, off, ha, _⟩ := hl q x hx
    rw [flatten_get hm hcs' hi] at hu
    have := (h2 q cs x hcs' hx).2 b off ha i u hu
    rw [hp] at ha
    cases ha
    rw [show ((⟨b, off, none⟩ : Addr).add (q * m + i)) = ⟨b, off + (q * m + i), none⟩ from by simp [Addr.add], ← Nat.add_assoc]
    exact this
/-- The cells of a node, written out. -/
def NodC (W : World) (cs : List Value) (x : Nod) : Prop := ∃ a c, cs = [.string x.label, .int .i64 x.here', .int .i64 x.below, .slice a x.kids.length c] ∧ x.kids.length ≤ c ∧ c ≤ maxLen ∧ Ints W a x.kids ∧ x.label.size ≤ maxLen
theorem NodC.form {W : World} (cs : List Value) (x : Nod) (h : NodC W cs x) : cs.length = 4 ∧ ∀ c ∈ cs, c.oneCell' = true := by
  obtain ⟨a, c, rfl, _⟩ := h
  exact ⟨rfl, by simp [Value.oneCell']⟩
theorem NodC.elc {W : World} {cs : List Value} {x : Nod} (h : NodC W cs x) : ElC 4 NodAt W cs x := by
  refine ⟨(h.form).1, (h.form).2, ?_⟩
  obtain ⟨a, c, rfl, h1, h2, h3, h4⟩ := h
  exact fun w' b o hE hc => ⟨hc 0 _ rfl, hc 1 _ rfl, hc 2 _ rfl, ⟨a, c, hc 3 _ rfl, h1, h2, h3.ext hE⟩, h4⟩
theorem NodC.set1 {W : World} {cs : List Value} {x : Nod} (h : NodC W cs x) (v : Int) : NodC W (cs.set 1 (.int .i64 v)) { x with here' := v } := by
  obtain ⟨a, c, rfl, h1, h2, h3, h4⟩ := h
  exact ⟨a, c, rfl, h1, h2, h3, h4⟩
theorem NodC.set0 {W : World} {cs : List Value} {x : Nod} (h : NodC W cs x) {v : ByteArray} (hv : v.size ≤ maxLen) : NodC W (cs.set 0 (.string v)) { x with label := v } := by
  obtain ⟨a, c, rfl, h1, h2, h3, h4⟩ := h
  exact ⟨a, c, rfl, h1, h2, h3, hv⟩
theorem nod_cs (W : World) (b o : Nat) (x : Nod) (h : NodAt W b o x) : ∃ cs, NodC W cs x ∧ ∀ (j : Nat) (u : Value), cs[j]? = some u → W.cell? ⟨b, o + j, none⟩ = some u := by
  obtain ⟨q0, q1, q2, ⟨a, c, q3, l1, l2, hs⟩, q4⟩ := h
  refine ⟨_, ⟨a, c, rfl, l1, l2, hs, q4⟩, fun j u hj => ?_⟩
  match j, hj with
  | 0, h => simp at h; subst h; exact q0
  | 1, h => simp at h; subst h; exact q1
  | 2, h => simp at h; subst h; exact q2
  | 3, h => simp at h; subst h; exact q3
  | j + 4, h => simp at h
/-- The nodes appended to nothing. -/
theorem nodes_copied {W w1 : World} {T : List Nod} {css : List (List Value)} {base q : Nat} {v : Value} (hq : T.length = q) (h1 : css.length = T.length) (h2 : ∀ (i : Nat) (cs : List Value) (x : Nod), css[i]? = some cs → T[i]? = some x → NodC W cs x)
    (hown : w1.ownsRow base 62 4 v q css.flatten) : OwnP base 62 4 (NodC W) w1 v T :=
  ⟨css, h1, fun i cs x hc hx => ⟨((h2 i cs x hc hx).form).1, h2 i cs x hc hx⟩, by rw [hq]; exact hown⟩
theorem wp_cut {P : Program} {c : Code} {Q : Exit → Act → World → Prop} {a : Act} {w : World} (F : Act → Act → World → Prop) (h : c.wp P (fun e a' w' => e = Exit.normal ∧ F a a' w') a w) (hk : ∀ a' w', F a a' w' → Q Exit.normal a' w') : c.wp P Q a w :=
  Code.wp_mono (fun e a' w' h => by obtain ⟨he, h⟩ := h; subst he; exact hk _ _ h) h
theorem tab_after {wr w6 : World} {o1 : Obj} (hg : ((wr.alloc o1).alloc (Obj.cells #[.slice none 0 0, .slice none 0 0] 45)).drew.grownBy w6 (some wr.heap.size)) : TabB w6 (wr.heap.size + 1) (.slice none 0 0) (.slice none 0 0) := by
  refine (hg.block (wr.heap.size + 1) (by simp) (by simp)).trans ?_
  have := World.alloc_heap_new (wr.alloc o1) (Obj.cells #[.slice none 0 0, .slice none 0 0] 45)
  rw [show (wr.alloc o1).heap.size = wr.heap.size + 1 by simp] at this
  exact this
theorem tab_after' {wr w6 : World} {o1 : Obj} (hg : ((wr.alloc (Obj.cells #[.slice none 0 0, .slice none 0 0] 45)).alloc o1).drew.grownBy w6 (some (wr.heap.size + 1))) : TabB w6 wr.heap.size (.slice none 0 0) (.slice none 0 0) := by
  refine (hg.block wr.heap.size (by simp; omega) (by simp)).trans ?_
  have h1 := World.alloc_heap_new wr (Obj.cells #[.slice none 0 0, .slice none 0 0] 45)
  have h2 : Ext (wr.alloc (Obj.cells #[.slice none 0 0, .slice none 0 0] 45)) (((wr.alloc (Obj.cells #[.slice none 0 0, .slice none 0 0] 45)).alloc o1).drew) := ext_drew (ext_alloc (Below.refl _ _) _)
  exact (h2.block wr.heap.size (by simp)).trans h1
theorem own_set2 {w : World} {base g B cap n m : Nat} {e : TypeId} {xs : List Value} {x y : Value} (h : w.ownsRow base e m (.slice (some ⟨g, 0, none⟩) n cap) n xs) (hne : B ≠ g) : ((w.setCell ⟨B, 0, none⟩ x).setCell ⟨B, 1, none⟩ y).ownsRow base e m (.slice (some ⟨g, 0, none⟩) n cap) n xs :=
  own_keep h fun k hk => by
    have hk' : some g = some k := hk
    cases hk'
    rw [Below.heap_setCell _ _ _ _ (fun e => hne e.symm), Below.heap_setCell _ _ _ _ (fun e => hne e.symm)]
theorem own_made2 (w : World) : ((w.alloc (Obj.cells #[.slice none 0 0, .slice none 0 0] 45)).alloc (Obj.cells #[] 62)).drew.ownsRow w.heap.size 62 4 (.slice (some ⟨w.heap.size + 1, 0, none⟩) 0 0) 0 [] := by
  have h := (World.ownsRow_made (base := w.heap.size) (size := 4) (e := 62) (w.alloc (Obj.cells #[.slice none 0 0, .slice none 0 0] 45)) #[] 0 (by simp) (Nat.zero_le _) (by simp)).drew
  rw [World.size_alloc] at h
  exact h
theorem check_at {rs : List Rul} {ns : List Nod} {a b : Option Addr} {cap n c m : Nat} {w : World} {x : Int} (hx : checkT rs ns = x) (hn : rs.length = n) (hnc : n ≤ cap) (hcm : cap ≤ maxLen) (hl : Ruls w a rs) (hfew : n ≤ 40) (hpf : ∀ r ∈ rs, r.pats.length ≤ 1000) (hm : ns.length = m) (hmc : m ≤ c) (hmm : c ≤ maxLen) (hns : Nods w b ns) (hw : Env w) :
    Calls Tryz.prog 30 #[.agg #[.slice a n cap, .slice b m c]] w (Ret (.int .i64 x) w) := by
  rw [← hx]; exact CheckT_any rs ns a b cap n c m w hn hnc hcm hl (by omega) hpf hm hmc hmm hns hw
theorem nods_drop {w : World} {b o : Nat} {T : List Nod} (h : Nods w (some ⟨b, o, none⟩) T) : Nods w (some ⟨b, o + 4, none⟩) (T.drop 1) := fun i x hx => by
  rw [List.getElem?_drop] at hx
  obtain ⟨b', o', hb, h'⟩ := h (1 + i) x hx
  cases hb
  exact ⟨_, _, rfl, by rwa [show o + 4 + i * 4 = o + (1 + i) * 4 by omega]⟩
theorem keep3 {w w' : World} {b c : Nat} {x y : Value} (h0 : w.cell? ⟨b, 0, none⟩ = some x) (h1 : w.cell? ⟨c, 1, none⟩ = some y) (hE : Ext w w') : Ext w w' ∧ w'.cell? ⟨b, 0, none⟩ = some x ∧ w'.cell? ⟨c, 1, none⟩ = some y := ⟨hE, ext_cell h0 hE, ext_cell h1 hE⟩
set_option maxRecDepth 100000 in
set_option maxHeartbeats 8000000 in
theorem PolicyTable_any (l : List Rul) (at0 here : Int) (lab : ByteArray) (a : Option Addr) (cap n : Nat) (w : World)
    (hn : l.length = n) (hnc : n ≤ cap) (hcm : cap ≤ maxLen) (hl : Ruls w a l) (hlb : lab.size ≤ maxLen) (hw : Env w) :
    Calls Tryz.prog 10 #[.slice a n cap, .int .i64 at0, .int .i64 here, .string lab] w (Ret (.bool true) w) := by
  have HN := Lib.hid hn; have HNC := Lib.hid hnc; have HCM := Lib.hid hcm; have HL := Lib.hid hl; have HLB := Lib.hid hlb; have HW := Lib.hid hw
  clear hn hnc hcm hl hlb hw
  obtain ⟨i1, gi, gz0, gz1, gz2⟩ := info_parts Tryz.infoInt
  go_enter Tryz.func10, Tryz.ntmps10
  go_wp2_with fail
  refine (live16_any _ HW.out).mono ?_; rintro e w1 ⟨rfl, hE1⟩
  have HE := Lib.hid hE1
  clear hE1
  go_wp2_with fail
  refine (Few_any l a cap n _ HN.out HNC.out HCM.out (HL.out.ext HE.out)).mono ?_; rintro e w2 ⟨rfl, rfl⟩
  cases hq : fewB l
  · clear hq
    go_wp2_with fail
    go_ret
    exact ⟨rfl, HE.out⟩
  · have HF := Lib.hid (few_sizes hq HN.out)
    clear hq
    obtain ⟨p, hp⟩ : ∃ p, (compR l).length = p := ⟨_, rfl⟩
    obtain ⟨q, hq⟩ : ∃ q, (compN l).length = q := ⟨_, rfl⟩
    obtain ⟨x, hx⟩ : ∃ x, rightE l = x := ⟨_, rfl⟩
    have HP := Lib.hid hp; have HQ := Lib.hid hq; have HX := Lib.hid hx
    clear hp hq hx
    go_wp2_with fail
    have hc := Compile_any l a cap n _ HN.out HNC.out HCM.out (HL.out.ext HE.out) (by have := HF.out.1; omega) HF.out.2 (HW.out.ext HE.out)
    rw [HX.out] at hc
    refine hc.mono ?_
    clear hc
    rintro e w3 hr
    obtain ⟨ta, tc, tb, td, rfl, t1, t2, t3, t4, ht, hnn, hE3⟩ := retTab_lit hr HP.out HQ.out
    have HT := Lib.hid ht; have HNN := Lib.hid hnn; have T1 := Lib.hid t1; have T2 := Lib.hid t2; have T3 := Lib.hid t3; have T4 := Lib.hid t4
    clear hr ht hnn t1 t2 t3 t4
    replace HE := Lib.hid (ext_trans HE.out hE3)
    clear hE3
    go_upto_region 6 with (fail)
    obtain ⟨W3, hW3⟩ : ∃ W3, w3.alloc (Obj.cells #[.slice ta p tc, .slice tb q td] 45) = W3 := ⟨_, rfl⟩
    have hE : Ext w3 W3 := by rw [← hW3]; exact ext_alloc (Below.refl _ w3) _
    have hM : W3.heap[w3.heap.size]? = some (Obj.cells #[.slice ta p tc, .slice tb q td] 45 (0, 0)) := by rw [← hW3]; exact World.alloc_heap_new w3 _
    rw [hW3]
    clear hW3
    have HTB := Lib.hid (show TabB W3 w3.heap.size (.slice ta p tc) (.slice tb q td) from hM)
    clear hM
    replace HE := Lib.hid (ext_trans HE.out hE); replace HT := Lib.hid (HT.out.ext hE); replace HNN := Lib.hid (HNN.out.ext hE)
    clear hE
    obtain ⟨a0, a1⟩ := HTB.out.cells
    by_cases hx0 : x = 0
    rotate_left
    · have t0 : (x != 0) = true := by simpa using hx0
      obtain rfl : p = 0 := by rw [← HP.out]; unfold compR; rw [HX.out, if_neg hx0]; rfl
      obtain rfl : q = 0 := by rw [← HQ.out]; unfold compN; rw [HX.out, if_neg hx0]; rfl
      clear hx0
      go_wp2_with fail
      go_ret
      exact ⟨rfl, HE.out⟩
    · subst hx0
      have HRE := HX
      have hcr : compR l = l := by unfold compR; rw [if_pos HX.out]
      have hcn : compN l = treeOf l := by unfold compN; rw [if_pos HX.out]
      rw [hcr] at HT; rw [hcn] at HNN
      obtain rfl : n = p := by rw [← HP.out, hcr, HN.out]
      have hq' : (treeOf l).length = q := by rw [← hcn]; exact HQ.out
      have hq0 : 0 < q := by rw [← hq']; exact tree_pos l HX.out
      obtain ⟨ps, htree⟩ := right_tree HX.out
      have hck : checkT l (treeOf l) = 0 := by rw [check_right HX.out, if_pos rfl]
      obtain ⟨T, hT⟩ : ∃ T, treeOf l = T := ⟨_, rfl⟩
      rw [hT] at HNN hq' htree hck
      have HTQ := Lib.hid hq'; have HQ0 := Lib.hid hq0; have HTT := Lib.hid hT; have HTR := Lib.hid htree; have HCK := Lib.hid hck
      clear hcr hcn hq' hT htree hck HP HQ
      have tq : ((q : Int) == 0) = false := by simp; omega
      go_wp2_with fail
      have hc := CheckT_any l T ta tb tc n td q W3 HN.out T1.out T2.out HT.out (by have := HF.out.1; omega) HF.out.2 HTQ.out T3.out T4.out HNN.out (HW.out.ext HE.out)
      rw [HCK.out] at hc
      refine hc.mono ?_
      clear hc
      rintro e w4 ⟨rfl, hE4⟩
      replace a0 := ext_cell a0 hE4; replace a1 := ext_cell a1 hE4
      replace HE := Lib.hid (ext_trans HE.out hE4); replace HT := Lib.hid (HT.out.ext hE4); replace HNN := Lib.hid (HNN.out.ext hE4)
      clear hE4
      have HQB := Lib.hid (show q ≤ 2049 by rw [← HTQ.out, ← HTT.out]; exact tree_bound HX.out)
      have A0 := Lib.hid a0; have A1 := Lib.hid a1
      go_upto_region 11 with (at_make; refine wpList_make_full w4 rfl _ _ _ rfl w4.heap.size 3 i1 _ 1 Tryz.underlying30 gi gz0 gz1 _ _ _ _ q rfl rfl rfl rfl (by rw [gz2]; have := HQB.out; omega) (by have := HQB.out; unfold maxLen; omega) (Nat.le_refl _) ?_; intro w5 hown5 hgrow5)
      have hE5 : Ext w4 w5 := (Below.refl _ w4).grown hgrow5 (Nat.le_refl _) (fun k hk => by cases hk)
      rw [cntRow_zero] at hown5
      obtain ⟨G, hG⟩ : ∃ G, w4.heap.size = G := ⟨_, rfl⟩
      rw [hG] at hown5 ⊢
      have HO5 := Lib.hid hown5; have HE5 := Lib.hid hE5; have HG := Lib.hid hG
      clear hown5 hgrow5 hE5 hG a0 a1
      go_wp2_with fail
      go_loopw [12] (fun i wr => ∃ j : Nat, j ≤ q ∧ i = .int .i64 j ∧ wr.ownsRow G 3 1 (.slice (some ⟨G, 0, none⟩) q q) q (cntRow q (kidsTo T j)) ∧ Ext w4 wr) (fun i _ => q - (intOf i).toNat)
      case atStart => exact ⟨0, Nat.zero_le _, rfl, HO5.out, HE5.out⟩
      case round =>
        obtain ⟨j, hj, rfl, hown, hEr⟩ := hrel
        have HO := Lib.hid hown; have HER := Lib.hid hEr
        have a0 := ext_cell A0.out HER.out; have a1 := ext_cell A1.out HER.out
        clear hown hEr
        by_cases hlt : j < q
        · obtain ⟨x, hx⟩ := get_some HTQ.out hlt
          obtain ⟨b1, o1, rfl, _, _, _, ⟨ka, kc, k3, k4, k5, hks⟩, _⟩ := HNN.out j x hx
          obtain ⟨X, hX⟩ : ∃ X, x.kids.length = X := ⟨_, rfl⟩
          rw [hX] at k3 k4
          have K3 := Lib.hid k3; have HXX := Lib.hid hX; have HXT := Lib.hid hx; have HKS := Lib.hid hks
          have hjd : j < td := by have := T3.out; omega
          unfold maxLen at k5
          clear k3 hks hX hx
          go_wp2_with fail
          go_loopw [13] (fun kk wr => ∃ k : Nat, k ≤ X ∧ kk = .int .i64 k ∧ wr.ownsRow G 3 1 (.slice (some ⟨G, 0, none⟩) q q) q (cntRow q (kidsTo T j ++ x.kids.take k)) ∧ Ext w4 wr) (fun kk _ => X - (intOf kk).toNat)
          case atStart => exact ⟨0, Nat.zero_le _, rfl, by rw [List.take_zero, List.append_nil]; exact HO.out, HER.out⟩
          case round =>
            obtain ⟨k, hk, rfl, hown, hEr⟩ := hrel
            have HO2 := Lib.hid hown; have HER2 := Lib.hid hEr
            replace a0 := ext_cell A0.out HER2.out; replace a1 := ext_cell A1.out HER2.out
            have k3 := ext_cell K3.out HER2.out
            clear hown hEr
            by_cases hlk : k < X
            · obtain ⟨y, hy⟩ := get_some HXX.out hlk
              obtain ⟨m, rfl, hm1, hm2⟩ := HTR.out.kid_above HXT.out (List.mem_of_getElem? hy)
              rw [HTQ.out] at hm2
              obtain ⟨b2, o2, rfl, ky⟩ := HKS.out k _ hy
              have kyy := ext_cell ky HER2.out
              rw [Nat.mul_one] at kyy
              have hkc : k < kc := by omega
              have HYT := Lib.hid hy
              obtain ⟨c, hc⟩ : ∃ c, cnt (kidsTo T j ++ x.kids.take k) m = c := ⟨_, rfl⟩
              have d0 : wr.cell? ⟨G, m, none⟩ = some (.int .i64 c) := by rw [← hc]; exact own_cell HO2.out rfl (cntRow_at hm2)
              have fz := HO2.out.frozenAt m
              have hcb : 0 ≤ c ∧ c ≤ 4000 := by
                have h1 := cnt_le (kidsTo T j ++ x.kids.take k) m
                have h2 := kidsTo_le T j HXT.out
                have h3 := HTR.out.kids_len
                have h4 := HQB.out
                rw [hc, List.length_append, List.length_take] at h1
                rw [HTQ.out] at h3
                omega
              have HC := Lib.hid hc
              clear ky hy hc
              go_wp2_with fail
              obtain ⟨ho3, hg3⟩ := HO2.out.stored m (.int .i64 (c + 1))
              have htk : kidsTo T j ++ x.kids.take (k + 1) = (kidsTo T j ++ x.kids.take k) ++ [(m : Int)] := by rw [List.take_add_one, HYT.out]; simp
              have hset := cntRow_set (q := q) (ks := kidsTo T j ++ x.kids.take k) (m := m)
              rw [HC.out, ← htk] at hset
              rw [hset] at ho3
              go_roundw
              case rel => exact ⟨k + 1, by omega, by go_num, ho3, HER2.out.grown hg3 (by rw [HG.out]; exact own_ge HO2.out)⟩
              case measure => simp [intOf]; omega
            · obtain rfl : k = X := by omega
              have hnx : kidsTo T j ++ x.kids.take k = kidsTo T (j + 1) := by rw [kidsTo_next HXT.out, List.take_of_length_le (by rw [HXX.out]; exact Nat.le_refl _)]
              rw [hnx] at HO2
              have hqb := HQB.out
              go_wp2_with fail
              go_roundw
              case rel => exact ⟨j + 1, by omega, by go_num, HO2.out, HER2.out⟩
              case measure => simp [intOf]; omega
        · obtain rfl : q = j := by omega
          have hall : kidsTo T q = T.flatMap (·.kids) := kidsTo_all (by rw [HTQ.out]; exact Nat.le_refl _)
          rw [hall] at HO
          have hqb := HQB.out
          go_wp2_with fail
          obtain ⟨wk, rfl⟩ : ∃ wk : World, wk = wr := ⟨_, rfl⟩
          go_loopw [15] (fun i w' => ∃ k : Nat, 1 ≤ k ∧ k ≤ q ∧ i = .int .i64 k ∧ Ext wk w') (fun i _ => q - (intOf i).toNat)
          case atStart => exact ⟨1, Nat.le_refl _, HQ0.out, rfl, Below.refl _ _⟩
          case round =>
            obtain ⟨k, hk1, hk2, rfl, hEr⟩ := hrel
            have HER2 := Lib.hid hEr
            clear hEr
            by_cases hlk : k < q
            · have d0 := own_cell (own_ext HO.out HER2.out) rfl (cntRow_at (ks := T.flatMap (·.kids)) hlk)
              rw [HTR.out.cnt_one hk1 (by rw [HTQ.out]; exact hlk)] at d0
              go_wp2_with fail
              go_roundw
              case rel => exact ⟨k + 1, by omega, by omega, by go_num, HER2.out⟩
              case measure => simp [intOf]; omega
            · obtain rfl : q = k := by omega
              have hE9 := ext_trans HER.out HER2.out
              replace HE := Lib.hid (ext_trans HE.out hE9); replace HT := Lib.hid (HT.out.ext hE9); replace HNN := Lib.hid (HNN.out.ext hE9); replace A0 := Lib.hid (ext_cell A0.out hE9); have a0 := A0.out; replace A1 := Lib.hid (ext_cell A1.out hE9); have a1 := A1.out
              clear hE9
              clear HER HER2 HO HO5 HE5
              obtain ⟨css, n1, n2, n3, n4, n5⟩ := sl_cssF NodC.form (nod_cs wr) HNN.out
              rw [HTQ.out] at n3
              have N1 := Lib.hid n1; have N2 := Lib.hid n2; have N3 := Lib.hid n3; have N4 := Lib.hid n4; have N5 := Lib.hid n5
              clear n1 n2 n3 n4 n5
              obtain ⟨x0, hx0⟩ := get_some HTQ.out HQ0.out
              obtain ⟨bn, on, rfl, _⟩ := HNN.out 0 x0 hx0
              obtain ⟨iN, ni, nz0, nz1, nz2⟩ := info_parts Tryz.infoNode
              have HN5 := Lib.hid (fun (w' : World) (hE : Ext wr w') (j : Nat) (u : Value) (h : css.flatten[j]? = some u) => (hE.cell (cell_lt (N5.out _ rfl j u h))).trans (N5.out _ rfl j u h))
              clear hx0 N5
              go_wp2_with fail
              refine wp_cut (fun a a' w' => ∃ ba B g1 cap1, a' = ((((((((a.put (some 106) (.pointer (some ⟨w3.heap.size, 0, none⟩))).put (some 107) (.slice ta n tc)).put (some 108) (.slice (some ⟨ba, 0, none⟩) 0 0)).put (some 109) (.pointer (some ⟨w3.heap.size, 1, none⟩))).put (some 110) (.slice (some ⟨bn, on, none⟩) q td)).put (some 111) (.slice (some ⟨g1, 0, none⟩) q cap1)).put (some 112) (.agg #[.slice ta n tc, .slice (some ⟨g1, 0, none⟩) q cap1])).put (some 16) (.pointer (some ⟨B, 0, none⟩))) ∧
                Ext wr w' ∧ wr.heap.size ≤ B ∧ TabB w' B (.slice ta n tc) (.slice (some ⟨g1, 0, none⟩) q cap1) ∧ w'.ownsRow wr.heap.size 62 4 (.slice (some ⟨g1, 0, none⟩) q cap1) q css.flatten ∧ B ≠ g1) ?_ ?_
              · have HW3 : w3.heap.size < wr.heap.size := cell_lt a0
                go_region_held3 (fun w' => Ext wr w' ∧ w'.cell? ⟨w3.heap.size, 0, none⟩ = some (.slice ta n tc) ∧ w'.cell? ⟨w3.heap.size, 1, none⟩ = some (.slice (some ⟨bn, on, none⟩) q td))
                  (first
                    | exact ⟨Below.refl _ _, a0, a1⟩
                    | exact keep3 a0 a1 (ext_alloc (Below.refl _ wr) _)
                    | exact keep3 a0 a1 (ext_alloc (ext_alloc (Below.refl _ wr) _) _)
                    | exact keep3 a0 a1 (ext_drew (Below.refl _ wr))
                    | exact keep3 a0 a1 (ext_drew (ext_alloc (Below.refl _ wr) _))
                    | exact keep3 a0 a1 (ext_drew (ext_alloc (ext_alloc (Below.refl _ wr) _) _))
                    | exact keep3 a0 a1 HE6
                    | exact keep3 a0 a1 (ext_alloc HE6 _)
                    | exact keep3 a0 a1 (Below.setCell (Below.setCell HE6 (by first | exact Nat.le_refl _ | exact Nat.le_succ _) _) (by first | exact Nat.le_refl _ | exact Nat.le_succ _) _))
                  (first
                  | (refine step_append_lies _ (by rfl) _ _ _ (by rfl) wr.heap.size 62 iN _ 4 56 Tryz.underlying43 ni nz0 nz1 nz2 rfl (by omega) (.slice (some ⟨wr.heap.size, 0, none⟩) 0 0) 0 [] (by rfl)
                      (by first | exact (World.ownsRow_made wr #[] 0 (Nat.le_refl _) (Nat.zero_le _) (by simp)).drew | exact ((World.ownsRow_made wr #[] 0 (Nat.le_refl _) (Nat.zero_le _) (by simp)).alloc _).drew)
                      ⟨bn, on, none⟩ q td css.flatten (by rfl) N3.out (fun j u hj => HN5.out _ (by first | exact ext_drew (ext_alloc (Below.refl _ _) _) | exact ext_drew (ext_alloc (ext_alloc (Below.refl _ _) _) _)) j u hj) N4.out HQ0.out (by unfold maxLen; omega) (by omega) (by simp; try omega) _ rfl ?_; intro g1 cap1 w6 hown6 hgrow hat6 hlt6; have HE6 := Ext.grown (show Ext wr _ by first | exact ext_drew (ext_alloc (Below.refl _ wr) _) | exact ext_drew (ext_alloc (ext_alloc (Below.refl _ wr) _) _)) hgrow (fun k hk => by simp [Value.ownBlock] at hk; omega); first | (have hT6 := tab_after hgrow; obtain ⟨hc0, hc1⟩ := hT6.cells; have hf0 := hT6.frozen 0; have hf1 := hT6.frozen 1) | (have hT6 := tab_after' hgrow; obtain ⟨hc0, hc1⟩ := hT6.cells; have hf0 := hT6.frozen 0; have hf1 := hT6.frozen 1) | skip)
                  | (refine step_append_lies _ (by rfl) _ _ _ (by rfl) wr.heap.size 62 iN _ 4 56 Tryz.underlying43 ni nz0 nz1 nz2 rfl (by omega) (.slice (some ⟨wr.heap.size + 1, 0, none⟩) 0 0) 0 [] (by rfl)
                      (own_made2 wr)
                      ⟨bn, on, none⟩ q td css.flatten (by rfl) N3.out (fun j u hj => HN5.out _ (by exact ext_drew (ext_alloc (ext_alloc (Below.refl _ _) _) _)) j u hj) N4.out HQ0.out (by unfold maxLen; omega) (by omega) (by simp; try omega) _ rfl ?_; intro g1 cap1 w6 hown6 hgrow hat6 hlt6; have HE6 := Ext.grown (show Ext wr _ by first | exact ext_drew (ext_alloc (Below.refl _ wr) _) | exact ext_drew (ext_alloc (ext_alloc (Below.refl _ wr) _) _)) hgrow (fun k hk => by simp [Value.ownBlock] at hk; omega); first | (have hT6 := tab_after hgrow; obtain ⟨hc0, hc1⟩ := hT6.cells; have hf0 := hT6.frozen 0; have hf1 := hT6.frozen 1) | (have hT6 := tab_after' hgrow; obtain ⟨hc0, hc1⟩ := hT6.cells; have hf0 := hT6.frozen 0; have hf1 := hT6.frozen 1) | skip))
                all_goals rw [Nat.zero_add, List.nil_append] at hown6
                all_goals refine ⟨rfl, ?_⟩
                all_goals first
                  | exact ⟨wr.heap.size, w6.heap.size, g1, cap1, rfl, ext_alloc HE6 _, HE6.size, TabB.new w6 _ _, hown6.alloc _, by omega⟩
                  | exact ⟨wr.heap.size, wr.heap.size + 1, g1, cap1, rfl, Below.setCell (Below.setCell HE6 (Nat.le_succ _) _) (Nat.le_succ _) _, Nat.le_succ _, (hT6.set0 _).set1 _, own_set2 hown6 (by
                      rcases hat6 with h | h
                      · simp [Value.ownBlock] at h; omega
                      · simp at h; omega), (by
                      rcases hat6 with h | h
                      · simp [Value.ownBlock] at h; omega
                      · simp at h; omega)⟩
                  | exact ⟨wr.heap.size + 1, wr.heap.size, g1, cap1, rfl, Below.setCell (Below.setCell HE6 (Nat.le_refl _) _) (Nat.le_refl _) _, Nat.le_refl _, (hT6.set0 _).set1 _, own_set2 hown6 (by
                      rcases hat6 with h | h
                      · simp [Value.ownBlock] at h; omega
                      · simp at h; omega), (by
                      rcases hat6 with h | h
                      · simp [Value.ownBlock] at h; omega
                      · simp at h; omega)⟩
              · rintro a' w10 ⟨ba, B, g1, cap1, rfl, hE10, hB, htab, hown, hBg⟩
                simp only [Act.put, List.setIfInBounds_toArray, List.set_cons_succ, List.set_cons_zero]
                have HB := Lib.hid hB; have HX1 := Lib.hid htab; have HO1 := Lib.hid hown; have HE10 := Lib.hid hE10
                have a0 := ext_cell A0.out hE10; have a1 := ext_cell A1.out hE10
                clear hE10 hB htab hown
                obtain ⟨mk, hmk, hmk2⟩ := mask_range at0
                go_upto_region 28 with (fail)
                obtain ⟨kk, hkk, hkq⟩ : ∃ kk : Nat, (mk : Int) % (q : Int) = (kk : Int) ∧ kk < q := ⟨mk % q, by omega, Nat.mod_lt _ hq0⟩
                rw [hkk]
                clear hmk hmk2 hkk
                have HKQ := Lib.hid hkq
                obtain ⟨x1, hx1⟩ := get_some HTQ.out hkq
                have hp := nodes_copied HTQ.out N1.out N2.out HO1.out
                have HV1 : Value.slice (some ⟨g1, 0, none⟩) q cap1 = .slice (some ⟨g1, 0, none⟩) T.length cap1 := by rw [HTQ.out]
                obtain ⟨cs, _, ⟨xa, xc, rfl, c1, c2, c3, c4⟩, c5⟩ := hp.cell HV1 hx1
                have e0 := c5 0 _ (by decide) rfl; have e1 := c5 1 _ (by decide) rfl; have e2 := c5 2 _ (by decide) rfl; have e3 := c5 3 _ (by decide) rfl
                rw [Nat.add_zero] at e0
                have HP := Lib.hid hp; have HX := Lib.hid hx1
                obtain ⟨x0, x1'⟩ := HX1.out.cells
                have hcap : q ≤ cap1 ∧ cap1 ≤ maxLen := by
                  rcases own_form HO1.out with ⟨h, _⟩ | ⟨_, _, h, _, _, _, h1, h2⟩
                  · cases h
                  · cases h; exact ⟨h1, h2⟩
                have hkc : kk < cap1 := by omega
                clear hp hx1 c5 c1 c2 c3 c4 HV1
                go_upto_region 29 with (fail)
                obtain ⟨W11, hW11⟩ : ∃ W11, w10.alloc (Obj.cells #[.string x1.label, .int .i64 x1.here', .int .i64 x1.below, .slice xa x1.kids.length xc] 62) = W11 := ⟨_, rfl⟩
                have hE : Ext w10 W11 := by rw [← hW11]; exact ext_alloc (Below.refl _ w10) _
                have hM : W11.heap[w10.heap.size]? = some (Obj.cells #[.string x1.label, .int .i64 x1.here', .int .i64 x1.below, .slice xa x1.kids.length xc] 62 (0, 0)) := by rw [← hW11]; exact World.alloc_heap_new w10 _
                rw [hW11]
                clear hW11
                have HWB := Lib.hid hM
                have HE11 := Lib.hid hE
                clear hM
                have HO11 := Lib.hid (own_ext HO1.out hE)
                have hp11 := HP.out.ext hE
                replace HX1 := Lib.hid (HX1.out.ext hE)
                obtain ⟨x0, x1'⟩ := HX1.out.cells
                have fz := HO11.out.frozenAt (kk * 4 + 1)
                have e1' := ext_cell e1 hE
                have HP11 := Lib.hid hp11
                clear e0 e1 e2 e3 hE hp11
                go_upto_region 30 with (fail)
                obtain ⟨W12, hW12⟩ : ∃ W12, W11.setCell ⟨g1, kk * 4 + 1, none⟩ (.int .i64 here) = W12 := ⟨_, rfl⟩
                have hV1 : Value.slice (some ⟨g1, 0, none⟩) q cap1 = .slice (some ⟨g1, 0, none⟩) T.length cap1 := by rw [HTQ.out]
                have hp12 := HP11.out.set hV1 HX.out 1 (.int .i64 here) { x1 with here' := here } (by decide) (fun cs h => h.set1 here)
                have hE12 : Ext wr W12 := by
                  rw [← hW12]
                  exact Below.setCell (ext_trans HE10.out HE11.out) (own_ge HO1.out g1 rfl) _
                have hx12 : TabB W12 B (.slice ta n tc) (.slice (some ⟨g1, 0, none⟩) q cap1) := by
                  rw [← hW12]; exact (Below.heap_setCell _ _ _ _ hBg).trans HX1.out
                have hg10 : g1 < w10.heap.size := (HO1.out.lt g1 rfl).2
                have hw12 : W12.heap[w10.heap.size]? = some (Obj.cells #[.string x1.label, .int .i64 x1.here', .int .i64 x1.below, .slice xa x1.kids.length xc] 62 (0, 0)) := by
                  rw [← hW12]; exact (Below.heap_setCell _ _ _ _ (by show w10.heap.size ≠ g1; omega)).trans HWB.out
                rw [hW12] at hp12 ⊢
                have HP12 := Lib.hid hp12; have HE12 := Lib.hid hE12; have HX12 := Lib.hid hx12; have HW12 := Lib.hid hw12
                have a0 := ext_cell A0.out hE12; have a1 := ext_cell A1.out hE12
                have HM5 := Lib.hid (fun (w' : World) (hE : Ext W12 w') (j : Nat) (u : Value) (h : css.flatten[j]? = some u) => HN5.out w' (ext_trans HE12.out hE) j u h)
                clear hV1 hp12 hE12 hx12 hw12 hW12 hg10 HP11 HO11 HWB HX1 e1' fz
                refine wp_cut (fun a a' w' => ∃ ba B g1 cap1, a' = ((((((((a.put (some 130) (.pointer (some ⟨w3.heap.size, 0, none⟩))).put (some 131) (.slice ta n tc)).put (some 132) (.slice (some ⟨ba, 0, none⟩) 0 0)).put (some 133) (.pointer (some ⟨w3.heap.size, 1, none⟩))).put (some 134) (.slice (some ⟨bn, on, none⟩) q td)).put (some 135) (.slice (some ⟨g1, 0, none⟩) q cap1)).put (some 136) (.agg #[.slice ta n tc, .slice (some ⟨g1, 0, none⟩) q cap1])).put (some 19) (.pointer (some ⟨B, 0, none⟩))) ∧
                  Ext W12 w' ∧ W12.heap.size ≤ B ∧ TabB w' B (.slice ta n tc) (.slice (some ⟨g1, 0, none⟩) q cap1) ∧ w'.ownsRow W12.heap.size 62 4 (.slice (some ⟨g1, 0, none⟩) q cap1) q css.flatten ∧ B ≠ g1) ?_ ?_
                · have HW3 : w3.heap.size < W12.heap.size := cell_lt a0
                  go_region_held3 (fun w' => Ext W12 w' ∧ w'.cell? ⟨w3.heap.size, 0, none⟩ = some (.slice ta n tc) ∧ w'.cell? ⟨w3.heap.size, 1, none⟩ = some (.slice (some ⟨bn, on, none⟩) q td))
                    (first
                      | exact ⟨Below.refl _ _, a0, a1⟩
                      | exact keep3 a0 a1 (ext_alloc (Below.refl _ W12) _)
                      | exact keep3 a0 a1 (ext_alloc (ext_alloc (Below.refl _ W12) _) _)
                      | exact keep3 a0 a1 (ext_drew (Below.refl _ W12))
                      | exact keep3 a0 a1 (ext_drew (ext_alloc (Below.refl _ W12) _))
                      | exact keep3 a0 a1 (ext_drew (ext_alloc (ext_alloc (Below.refl _ W12) _) _))
                      | exact keep3 a0 a1 HE6
                      | exact keep3 a0 a1 (ext_alloc HE6 _)
                      | exact keep3 a0 a1 (Below.setCell (Below.setCell HE6 (by first | exact Nat.le_refl _ | exact Nat.le_succ _) _) (by first | exact Nat.le_refl _ | exact Nat.le_succ _) _))
                    (first
                    | (refine step_append_lies _ (by rfl) _ _ _ (by rfl) W12.heap.size 62 iN _ 4 56 Tryz.underlying43 ni nz0 nz1 nz2 rfl (by omega) (.slice (some ⟨W12.heap.size, 0, none⟩) 0 0) 0 [] (by rfl)
                        (by first | exact (World.ownsRow_made W12 #[] 0 (Nat.le_refl _) (Nat.zero_le _) (by simp)).drew | exact ((World.ownsRow_made W12 #[] 0 (Nat.le_refl _) (Nat.zero_le _) (by simp)).alloc _).drew)
                        ⟨bn, on, none⟩ q td css.flatten (by rfl) N3.out (fun j u hj => HM5.out _ (by first | exact ext_drew (ext_alloc (Below.refl _ _) _) | exact ext_drew (ext_alloc (ext_alloc (Below.refl _ _) _) _)) j u hj) N4.out HQ0.out (by unfold maxLen; omega) (by omega) (by simp; try omega) _ rfl ?_; intro g1 cap1 w6 hown6 hgrow hat6 hlt6; have HE6 := Ext.grown (show Ext W12 _ by first | exact ext_drew (ext_alloc (Below.refl _ W12) _) | exact ext_drew (ext_alloc (ext_alloc (Below.refl _ W12) _) _)) hgrow (fun k hk => by simp [Value.ownBlock] at hk; omega); first | (have hT6 := tab_after hgrow; obtain ⟨hc0, hc1⟩ := hT6.cells; have hf0 := hT6.frozen 0; have hf1 := hT6.frozen 1) | (have hT6 := tab_after' hgrow; obtain ⟨hc0, hc1⟩ := hT6.cells; have hf0 := hT6.frozen 0; have hf1 := hT6.frozen 1) | skip)
                    | (refine step_append_lies _ (by rfl) _ _ _ (by rfl) W12.heap.size 62 iN _ 4 56 Tryz.underlying43 ni nz0 nz1 nz2 rfl (by omega) (.slice (some ⟨W12.heap.size + 1, 0, none⟩) 0 0) 0 [] (by rfl)
                        (own_made2 W12)
                        ⟨bn, on, none⟩ q td css.flatten (by rfl) N3.out (fun j u hj => HM5.out _ (by exact ext_drew (ext_alloc (ext_alloc (Below.refl _ _) _) _)) j u hj) N4.out HQ0.out (by unfold maxLen; omega) (by omega) (by simp; try omega) _ rfl ?_; intro g1 cap1 w6 hown6 hgrow hat6 hlt6; have HE6 := Ext.grown (show Ext W12 _ by first | exact ext_drew (ext_alloc (Below.refl _ W12) _) | exact ext_drew (ext_alloc (ext_alloc (Below.refl _ W12) _) _)) hgrow (fun k hk => by simp [Value.ownBlock] at hk; omega); first | (have hT6 := tab_after hgrow; obtain ⟨hc0, hc1⟩ := hT6.cells; have hf0 := hT6.frozen 0; have hf1 := hT6.frozen 1) | (have hT6 := tab_after' hgrow; obtain ⟨hc0, hc1⟩ := hT6.cells; have hf0 := hT6.frozen 0; have hf1 := hT6.frozen 1) | skip))
                  all_goals rw [Nat.zero_add, List.nil_append] at hown6
                  all_goals refine ⟨rfl, ?_⟩
                  all_goals first
                    | exact ⟨W12.heap.size, w6.heap.size, g1, cap1, rfl, ext_alloc HE6 _, HE6.size, TabB.new w6 _ _, hown6.alloc _, by omega⟩
                    | exact ⟨W12.heap.size, W12.heap.size + 1, g1, cap1, rfl, Below.setCell (Below.setCell HE6 (Nat.le_succ _) _) (Nat.le_succ _) _, Nat.le_succ _, (hT6.set0 _).set1 _, own_set2 hown6 (by
                        rcases hat6 with h | h
                        · simp [Value.ownBlock] at h; omega
                        · simp at h; omega), (by
                        rcases hat6 with h | h
                        · simp [Value.ownBlock] at h; omega
                        · simp at h; omega)⟩
                    | exact ⟨W12.heap.size + 1, W12.heap.size, g1, cap1, rfl, Below.setCell (Below.setCell HE6 (Nat.le_refl _) _) (Nat.le_refl _) _, Nat.le_refl _, (hT6.set0 _).set1 _, own_set2 hown6 (by
                        rcases hat6 with h | h
                        · simp [Value.ownBlock] at h; omega
                        · simp at h; omega), (by
                        rcases hat6 with h | h
                        · simp [Value.ownBlock] at h; omega
                        · simp at h; omega)⟩
                · rintro a' w13 ⟨bb, B2, g2, cap2, rfl, hE13, hB2, htab, hown, hBg2⟩
                  simp only [Act.put, List.setIfInBounds_toArray, List.set_cons_succ, List.set_cons_zero]
                  have hp13 := nodes_copied HTQ.out N1.out N2.out hown
                  have hV2 : Value.slice (some ⟨g2, 0, none⟩) q cap2 = .slice (some ⟨g2, 0, none⟩) T.length cap2 := by rw [HTQ.out]
                  obtain ⟨cs, _, ⟨ya, yc, rfl, _⟩, c5⟩ := hp13.cell hV2 HX.out
                  have e0 := c5 0 _ (by decide) rfl
                  rw [Nat.add_zero] at e0
                  obtain ⟨y0, y1⟩ := htab.cells
                  have hcap2 : q ≤ cap2 ∧ cap2 ≤ maxLen := by
                    rcases own_form hown with ⟨h, _⟩ | ⟨_, _, h, _, _, _, h1, h2⟩
                    · cases h
                    · cases h; exact ⟨h1, h2⟩
                  have hkc2 : kk < cap2 := by omega
                  have fz := hown.frozenAt (kk * 4)
                  have HP13 := Lib.hid hp13; have HTB2 := Lib.hid htab; have HO2 := Lib.hid hown; have HE13 := Lib.hid hE13
                  clear hp13 hV2 c5 htab hown hE13
                  go_upto_region 32 with (fail)
                  obtain ⟨W14, hW14⟩ : ∃ W14, w13.setCell ⟨g2, kk * 4, none⟩ (.string lab) = W14 := ⟨_, rfl⟩
                  have hV2 : Value.slice (some ⟨g2, 0, none⟩) q cap2 = .slice (some ⟨g2, 0, none⟩) T.length cap2 := by rw [HTQ.out]
                  have hp14 := HP13.out.set hV2 HX.out 0 (.string lab) { x1 with label := lab } (by decide) (fun cs h => h.set0 HLB.out)
                  rw [Nat.add_zero] at hp14
                  have hE14 : Ext W12 W14 := by
                    rw [← hW14]
                    exact Below.setCell HE13.out (own_ge HO2.out g2 rfl) _
                  have htb2 : TabB W14 B2 (.slice ta n tc) (.slice (some ⟨g2, 0, none⟩) q cap2) := by
                    rw [← hW14]; exact (Below.heap_setCell _ _ _ _ hBg2).trans HTB2.out
                  rw [hW14] at hp14 ⊢
                  clear hV2
                  have hx14 := HX12.out.ext hE14
                  have hp12 := HP12.out.ext hE14
                  have hw14 := (hE14.block _ (Array.getElem?_eq_some_iff.1 HW12.out).1).trans HW12.out
                  have hN1 : Nods W14 (some ⟨g1, 0, none⟩) (T.set kk { x1 with here' := here }) := by
                    obtain ⟨a', c', hv, _, _, h⟩ := (hp12.toL (fun cs x _ h => h.elc)).slv (ext_trans HE12.out hE14)
                    cases hv; exact h
                  have hN2 : Nods W14 (some ⟨g2, 0, none⟩) (T.set kk { x1 with label := lab }) := by
                    obtain ⟨a', c', hv, _, _, h⟩ := (hp14.toL (fun cs x _ h => h.elc)).slv (ext_trans HE12.out hE14)
                    cases hv; exact h
                  have a0 := ext_cell a0 hE14; have a1 := ext_cell a1 hE14
                  obtain ⟨p0, p1⟩ := hx14.cells
                  obtain ⟨r0, r1⟩ := htb2.cells
                  have w0 : W14.cell? ⟨w10.heap.size, 0, none⟩ = some (.string x1.label) := by simp [World.cell?, hw14]
                  have w1' : W14.cell? ⟨w10.heap.size, 1, none⟩ = some (.int .i64 x1.here') := by simp [World.cell?, hw14]
                  have HEA := Lib.hid (ext_trans HE12.out hE14)
                  obtain ⟨c1, hc1⟩ : ∃ c1, checkT l (T.set kk { x1 with here' := here }) = c1 := ⟨_, rfl⟩
                  obtain ⟨c2, hc2⟩ : ∃ c2, checkT l (T.set kk { x1 with label := lab }) = c2 := ⟨_, rfl⟩
                  have HC1 : Hid (∀ w', Ext W14 w' → Calls Tryz.prog 30 #[.agg #[.slice ta n tc, .slice (some ⟨g1, 0, none⟩) q cap1]] w' (Ret (.int .i64 c1) w')) := Lib.hid (fun w' hE =>
                    check_at hc1 HN.out T1.out T2.out (HT.out.ext (ext_trans HEA.out hE)) HF.out.1 HF.out.2 ((List.length_set ..).trans HTQ.out) hcap.1 hcap.2 (hN1.ext hE) (HW.out.ext (ext_trans HE.out (ext_trans HEA.out hE))))
                  have HC2 : Hid (∀ w', Ext W14 w' → Calls Tryz.prog 30 #[.agg #[.slice ta n tc, .slice (some ⟨g2, 0, none⟩) q cap2]] w' (Ret (.int .i64 c2) w')) := Lib.hid (fun w' hE =>
                    check_at hc2 HN.out T1.out T2.out (HT.out.ext (ext_trans HEA.out hE)) HF.out.1 HF.out.2 ((List.length_set ..).trans HTQ.out) hcap2.1 hcap2.2 (hN2.ext hE) (HW.out.ext (ext_trans HE.out (ext_trans HEA.out hE))))
                  have HR1 := Lib.hid hc1; have HR2 := Lib.hid hc2
                  clear hc1 hc2
                  refine wp_region_S (by kernel_rfl) (by kernel_rfl) (by kernel_rfl) (by kernel_rfl) (by kernel_rfl) (fun w' => Ext W14 w') ((Fr.drew (fun _ => False) _).ext (fun _ _ h => h)) ?_
                  iterate 9
                    first
                    | (refine steps_and rfl rfl rfl rfl ?_; simp only [Act.put, List.setIfInBounds_toArray, List.set_cons_succ, List.set_cons_zero])
                    | (refine steps_or rfl rfl rfl rfl ?_; simp only [Act.put, List.setIfInBounds_toArray, List.set_cons_succ, List.set_cons_zero])
                    | (refine steps_skip rfl ?_; simp only [Act.put, List.setIfInBounds_toArray, List.set_cons_succ, List.set_cons_zero])
                    | (refine steps_guard_and rfl rfl rfl rfl rfl ?_; simp only [Act.put, List.setIfInBounds_toArray, List.set_cons_succ, List.set_cons_zero])
                    | (refine steps_guard_or rfl rfl rfl rfl rfl ?_; simp only [Act.put, List.setIfInBounds_toArray, List.set_cons_succ, List.set_cons_zero])
                    | (refine steps_guard (v := ?_) rfl rfl (fun hb w' hS => ?_) ?_; rotate_left; (focus (have k0 := ext_cell a0 hS; have k1 := ext_cell a1 hS; have k2 := ext_cell p0 hS; have k3 := ext_cell p1 hS; have k4 := ext_cell r0 hS; have k5 := ext_cell r1 hS; have k6 := ext_cell w0 hS; have k7 := ext_cell w1' hS; unfold Gives; go_simp; first | exact is_mk hS | (refine (HC1.out _ hS).mono ?_; rintro e w'' ⟨rfl, h2⟩; exact gave_mk (ext_trans hS h2)))); simp only [Act.put, List.setIfInBounds_toArray, List.set_cons_succ, List.set_cons_zero])
                    | (refine steps_guard2 (v := ?_) rfl rfl rfl (fun hb1 hb w' hS => ?_) ?_; rotate_left; (focus (have k0 := ext_cell a0 hS; have k1 := ext_cell a1 hS; have k2 := ext_cell p0 hS; have k3 := ext_cell p1 hS; have k4 := ext_cell r0 hS; have k5 := ext_cell r1 hS; have k6 := ext_cell w0 hS; have k7 := ext_cell w1' hS; unfold Gives; go_simp; first | exact is_mk hS | (refine (HC1.out _ hS).mono ?_; rintro e w'' ⟨rfl, h2⟩; exact gave_mk (ext_trans hS h2)))); simp only [Act.put, List.setIfInBounds_toArray, List.set_cons_succ, List.set_cons_zero])
                    | (refine steps_run (v := ?_) rfl (fun w' hS => ?_) ?_; rotate_left; (focus (have k0 := ext_cell a0 hS; have k1 := ext_cell a1 hS; have k2 := ext_cell p0 hS; have k3 := ext_cell p1 hS; have k4 := ext_cell r0 hS; have k5 := ext_cell r1 hS; have k6 := ext_cell w0 hS; have k7 := ext_cell w1' hS; unfold Gives; go_simp; first | exact is_mk hS | (refine (HC1.out _ hS).mono ?_; rintro e w'' ⟨rfl, h2⟩; exact gave_mk (ext_trans hS h2)))); simp only [Act.put, List.setIfInBounds_toArray, List.set_cons_succ, List.set_cons_zero])
                  obtain ⟨B1, hB1⟩ : ∃ B1, ((c1 == 0) == (here == x1.here')) = B1 := ⟨_, rfl⟩
                  rw [hB1]
                  have HB1 := Lib.hid hB1
                  clear hB1
                  iterate 10
                    first
                    | (refine steps_and rfl rfl rfl rfl ?_; simp only [Act.put, List.setIfInBounds_toArray, List.set_cons_succ, List.set_cons_zero])
                    | (refine steps_or rfl rfl rfl rfl ?_; simp only [Act.put, List.setIfInBounds_toArray, List.set_cons_succ, List.set_cons_zero])
                    | (refine steps_skip rfl ?_; simp only [Act.put, List.setIfInBounds_toArray, List.set_cons_succ, List.set_cons_zero])
                    | (refine steps_guard_and rfl rfl rfl rfl rfl ?_; simp only [Act.put, List.setIfInBounds_toArray, List.set_cons_succ, List.set_cons_zero])
                    | (refine steps_guard_or rfl rfl rfl rfl rfl ?_; simp only [Act.put, List.setIfInBounds_toArray, List.set_cons_succ, List.set_cons_zero])
                    | (refine steps_guard (v := ?_) rfl rfl (fun hb w' hS => ?_) ?_; rotate_left; (focus (have k0 := ext_cell a0 hS; have k1 := ext_cell a1 hS; have k2 := ext_cell p0 hS; have k3 := ext_cell p1 hS; have k4 := ext_cell r0 hS; have k5 := ext_cell r1 hS; have k6 := ext_cell w0 hS; have k7 := ext_cell w1' hS; unfold Gives; go_simp; first | exact is_mk hS | (refine (HC2.out _ hS).mono ?_; rintro e w'' ⟨rfl, h2⟩; exact gave_mk (ext_trans hS h2)))); simp only [Act.put, List.setIfInBounds_toArray, List.set_cons_succ, List.set_cons_zero])
                    | (refine steps_guard2 (v := ?_) rfl rfl rfl (fun hb1 hb w' hS => ?_) ?_; rotate_left; (focus (have k0 := ext_cell a0 hS; have k1 := ext_cell a1 hS; have k2 := ext_cell p0 hS; have k3 := ext_cell p1 hS; have k4 := ext_cell r0 hS; have k5 := ext_cell r1 hS; have k6 := ext_cell w0 hS; have k7 := ext_cell w1' hS; unfold Gives; go_simp; first | exact is_mk hS | (refine (HC2.out _ hS).mono ?_; rintro e w'' ⟨rfl, h2⟩; exact gave_mk (ext_trans hS h2)))); simp only [Act.put, List.setIfInBounds_toArray, List.set_cons_succ, List.set_cons_zero])
                    | (refine steps_run (v := ?_) rfl (fun w' hS => ?_) ?_; rotate_left; (focus (have k0 := ext_cell a0 hS; have k1 := ext_cell a1 hS; have k2 := ext_cell p0 hS; have k3 := ext_cell p1 hS; have k4 := ext_cell r0 hS; have k5 := ext_cell r1 hS; have k6 := ext_cell w0 hS; have k7 := ext_cell w1' hS; unfold Gives; go_simp; first | exact is_mk hS | (refine (HC2.out _ hS).mono ?_; rintro e w'' ⟨rfl, h2⟩; exact gave_mk (ext_trans hS h2)))); simp only [Act.put, List.setIfInBounds_toArray, List.set_cons_succ, List.set_cons_zero])
                  obtain ⟨B2, hB2⟩ : ∃ B2, (B1 && ((c2 == 0) == (lab.toList == x1.label.toList))) = B2 := ⟨_, rfl⟩
                  rw [hB2]
                  have HB2 := Lib.hid hB2
                  clear hB2
                  have hq1i : (1 : Int) ≤ (q : Int) := by have := HQ0.out; omega
                  have hN3 : Nods W14 (if td = 1 then some ⟨bn, on, none⟩ else some ⟨bn, on + 4, none⟩) (T.drop 1) := by
                    split
                    · next h =>
                      have h1 := HTQ.out; have h2 := T3.out; have h3 := HQ0.out
                      rw [show T.drop 1 = [] from List.drop_eq_nil_of_le (by omega)]
                      exact SlA.nil _ _ _ _
                    · exact nods_drop (HNN.out.ext HEA.out)
                  have hc3 : checkT l (T.drop 1) = 1 := by rw [← HTT.out]; exact check_tail HRE.out
                  have HC3 : Hid (∀ w', Ext W14 w' → Calls Tryz.prog 30 #[.agg #[.slice ta n tc, .slice (if td = 1 then some ⟨bn, on, none⟩ else some ⟨bn, on + 4, none⟩) (q - 1) (td - 1)]] w' (Ret (.int .i64 1) w')) := Lib.hid (fun w' hE =>
                    check_at hc3 HN.out T1.out T2.out (HT.out.ext (ext_trans HEA.out hE)) HF.out.1 HF.out.2 (by rw [List.length_drop, HTQ.out]) (by have := T3.out; omega) (by have := T4.out; omega) (hN3.ext hE) (HW.out.ext (ext_trans HE.out (ext_trans HEA.out hE))))
                  clear hN3 hc3
                  repeat
                    first
                    | (refine steps_and rfl rfl rfl rfl ?_; simp only [Act.put, List.setIfInBounds_toArray, List.set_cons_succ, List.set_cons_zero])
                    | (refine steps_or rfl rfl rfl rfl ?_; simp only [Act.put, List.setIfInBounds_toArray, List.set_cons_succ, List.set_cons_zero])
                    | (refine steps_skip rfl ?_; simp only [Act.put, List.setIfInBounds_toArray, List.set_cons_succ, List.set_cons_zero])
                    | (refine steps_guard_and rfl rfl rfl rfl rfl ?_; simp only [Act.put, List.setIfInBounds_toArray, List.set_cons_succ, List.set_cons_zero])
                    | (refine steps_guard_or rfl rfl rfl rfl rfl ?_; simp only [Act.put, List.setIfInBounds_toArray, List.set_cons_succ, List.set_cons_zero])
                    | (refine steps_guard (v := ?_) rfl rfl (fun hb w' hS => ?_) ?_; rotate_left; (focus (have k0 := ext_cell a0 hS; have k1 := ext_cell a1 hS; have k2 := ext_cell p0 hS; have k3 := ext_cell p1 hS; have k4 := ext_cell r0 hS; have k5 := ext_cell r1 hS; have k6 := ext_cell w0 hS; have k7 := ext_cell w1' hS; unfold Gives; go_simp; first | exact is_mk hS | (refine (HC3.out _ hS).mono ?_; rintro e w'' ⟨rfl, h2⟩; exact gave_mk (ext_trans hS h2)))); simp only [Act.put, List.setIfInBounds_toArray, List.set_cons_succ, List.set_cons_zero])
                    | (refine steps_guard2 (v := ?_) rfl rfl rfl (fun hb1 hb w' hS => ?_) ?_; rotate_left; (focus (have k0 := ext_cell a0 hS; have k1 := ext_cell a1 hS; have k2 := ext_cell p0 hS; have k3 := ext_cell p1 hS; have k4 := ext_cell r0 hS; have k5 := ext_cell r1 hS; have k6 := ext_cell w0 hS; have k7 := ext_cell w1' hS; unfold Gives; go_simp; first | exact is_mk hS | (refine (HC3.out _ hS).mono ?_; rintro e w'' ⟨rfl, h2⟩; exact gave_mk (ext_trans hS h2)))); simp only [Act.put, List.setIfInBounds_toArray, List.set_cons_succ, List.set_cons_zero])
                    | (refine steps_run (v := ?_) rfl (fun w' hS => ?_) ?_; rotate_left; (focus (have k0 := ext_cell a0 hS; have k1 := ext_cell a1 hS; have k2 := ext_cell p0 hS; have k3 := ext_cell p1 hS; have k4 := ext_cell r0 hS; have k5 := ext_cell r1 hS; have k6 := ext_cell w0 hS; have k7 := ext_cell w1' hS; unfold Gives; go_simp; first | exact is_mk hS | (refine (HC3.out _ hS).mono ?_; rintro e w'' ⟨rfl, h2⟩; exact gave_mk (ext_trans hS h2)))); simp only [Act.put, List.setIfInBounds_toArray, List.set_cons_succ, List.set_cons_zero])
                  refine steps_end fun wz hEz => ?_
                  have e1 : (c1 == 0) = (here == x1.here') := by rw [← HR1.out, ← HTT.out]; exact check_here HRE.out (by rw [HTT.out]; exact HX.out)
                  have e2 : (c2 == 0) = (lab.toList == x1.label.toList) := by rw [← HR2.out, ← HTT.out]; exact check_label HRE.out (by rw [HTT.out]; exact HX.out)
                  have b1 : B1 = true := by rw [← HB1.out, e1]; simp
                  have b2 : B2 = true := by rw [← HB2.out, b1, e2]; simp
                  subst b2
                  go_wp2_with fail
                  all_goals (go_ret; exact ⟨by first | rfl | simp, ext_trans HE.out (ext_trans HEA.out hEz)⟩)
end Go.Proofs.YtmdmbdbbpdojnaaGreatDoor
