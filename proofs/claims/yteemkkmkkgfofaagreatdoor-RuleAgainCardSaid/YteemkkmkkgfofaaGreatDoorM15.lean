/- Rules' texts, in plain Lean: tokens computed; the chapter's examples. No program in sight. Rules' texts, in plain Lean: how long they are, and how many blanks they have. No program in sight. For the walk of one rule: what a pattern, a limit that is read does to what is read; the memory on the way. -/
import Derived.Test.YteemkkmkkgfofaaGreatDoorM04
import Derived.Test.YteemkkmkkgfofaaGreatDoorM14
import Derived.Deep.AppendLies
import Derived.Deep.RegionLaw
namespace Go.Proofs.YteemkkmkkgfofaaGreatDoor
namespace Pol
open Nam
/-- The tokens of bytes, computed. -/
def lexF : Nat → Str → Nat → List Tok
  | _, [], i => [(bA [], i)]
  | 0, _ :: _, _ => []
  | n + 1, c :: t, i =>
    if c = 32 ∨ c = 10 then lexF n t (i + 1)
    else if wordyB c = true then (bA ((c :: t).takeWhile wordyB), i) :: lexF n ((c :: t).dropWhile wordyB) (i + ((c :: t).takeWhile wordyB).length)
    else if c = 35 then lexF n (t.dropWhile (· != 10)) (i + 1 + (t.takeWhile (· != 10)).length)
    else (bA [c], i) :: lexF n t (i + 1)
theorem lexF_ok : ∀ (n : Nat) (s : Str) (i : Nat), s.length ≤ n → Lex s i (lexF n s i)
  | 0, [], i, _ => .done i
  | _ + 1, [], i, _ => .done i
  | 0, c :: t, _, h => by simp at h
  | n + 1, c :: t, i, h => by
    have hl : t.length ≤ n := by simpa using h
    unfold lexF
    by_cases hb : c = 32 ∨ c = 10
    · rw [if_pos hb]; exact .blank hb (lexF_ok n t (i + 1) hl)
    rw [if_neg hb]
    by_cases hw : wordyB c = true
    · rw [if_pos hw]
      have hu : (c :: t).takeWhile wordyB ++ (c :: t).dropWhile wordyB = c :: t := List.takeWhile_append_dropWhile
      have hd : ((c :: t).dropWhile wordyB).length ≤ n := by
        rw [List.dropWhile_cons_of_pos hw]
        exact Nat.le_trans (List.dropWhile_sublist _).length_le hl
      have hT := lexF_ok n ((c :: t).dropWhile wordyB) (i + ((c :: t).takeWhile wordyB).length) hd
      have := Lex.word (u := (c :: t).takeWhile wordyB) (by rw [List.takeWhile_cons_of_pos hw]; simp) (fun x hx => by simpa using (List.all_eq_true.1 List.all_takeWhile x hx)) dropW_head hT
      rw [hu] at this
      exact this
    rw [if_neg hw]
    by_cases hn : c = 35
    · subst hn
      rw [if_pos rfl]
      have hT := lexF_ok n (t.dropWhile (· != 10)) (i + 1 + (t.takeWhile (· != 10)).length) (Nat.le_trans (List.dropWhile_sublist _).length_le hl)
      have := Lex.note (u := t.takeWhile (· != 10)) (fun x hx => by simpa using (List.all_eq_true.1 List.all_takeWhile x hx)) ?_ hT
      · rw [List.takeWhile_append_dropWhile] at this
        exact this
      · clear hT hl h
        induction t with
        | nil => exact .inl rfl
        | cons x t ih =>
          rw [List.dropWhile_cons]
          split
          · exact ih
          · next hx => simp at hx; subst hx; exact .inr rfl
    · rw [if_neg hn]
      exact .sign (by simpa using hw) (fun e => hb (.inl e)) (fun e => hb (.inr e)) hn (lexF_ok n t (i + 1) hl)
/-- What reading bytes gives, computed. -/
def readF (s : Str) : PR (List Rul) := readT (lexF s.length s 0)
/-- The chapter's rule. -/
def webR : Rul := ⟨⟨#[119, 101, 98]⟩, true, [⟨#[97, 46, 98]⟩, ⟨#[42, 46, 99]⟩], 0, 90, 3, 10⟩
def webS : Str := [97, 108, 108, 111, 119, 32, 119, 101, 98, 32, 123, 32, 97, 46, 98, 44, 32, 42, 46, 99, 59, 32, 108, 105, 102, 101, 32, 57, 48, 59, 32, 109, 111, 115, 116, 32, 51, 32, 112, 101, 114, 32, 49, 48, 59, 32, 125, 10]
def webS2 : Str := [32, 97, 108, 108, 111, 119, 32, 119, 101, 98, 123, 97, 46, 98, 44, 42, 46, 99, 59, 108, 105, 102, 101, 32, 57, 48, 59, 109, 111, 115, 116, 32, 51, 32, 112, 101, 114, 32, 49, 48, 59, 125, 35, 32, 97, 110, 100, 32, 110, 111, 32, 109, 111, 114, 101]
def badS : Str := [114, 101, 102, 117, 115, 101, 32, 120, 32, 123, 32, 97, 46, 46, 98, 59, 32, 125, 10]
def allowS : Str := [97, 108, 108, 111, 119]
set_option maxRecDepth 100000 in
theorem read_web : readF webS = .ok [webR] := by rfl
set_option maxRecDepth 100000 in
theorem read_web2 : readF webS2 = .ok [webR] := by rfl
set_option maxRecDepth 100000 in
theorem read_bad : readF badS = .error (11, 71) := by rfl
set_option maxRecDepth 100000 in
theorem read_allow : readF allowS = .error (5, 71) := by rfl
theorem read_nil : readF [] = .ok [] := by rfl
set_option maxRecDepth 100000 in
theorem web_text : textL [webR] = webS := by
  have h1 : decS 90 = [57, 48] := by simp [decS, Lib.decDigits]
  have h2 : decS 3 = [51] := by simp [decS, Lib.decDigits]
  have h3 : decS 10 = [49, 48] := by simp [decS, Lib.decDigits]
  unfold textL webS
  rw [List.flatMap_cons]
  unfold textR bodyR lifeR mostR
  rw [show webR.lifeMax = 90 from rfl, show webR.most = 3 from rfl, show webR.window = 10 from rfl, h1, h2, h3]
  rfl
set_option maxRecDepth 100000 in
theorem web_check : checkE [webR] = 0 := by rfl
theorem web_key : ∀ r ∈ [webR], 0 ≤ r.keyMin := fun r hr => by
  rw [List.mem_singleton] at hr; subst hr; exact Int.le_refl _
end Pol
end Go.Proofs.YteemkkmkkgfofaaGreatDoor
namespace Go.Proofs.YteemkkmkkgfofaaGreatDoor
namespace Pol
open Nam
def blankB (c : UInt8) : Bool := c == 32 || c == 10
/-- How many blanks. -/
def cntB (s : Str) : Nat := s.countP blankB
theorem cntB_app (s t : Str) : cntB (s ++ t) = cntB s + cntB t := List.countP_append
theorem cntB_wordy {u : Str} (h : Wordy u) : cntB u = 0 := by
  unfold cntB
  rw [List.countP_eq_zero]
  intro c hc
  have := wordy_no (h.2 c hc)
  simp [blankB, this.1, this.2.1]
theorem name_len {l : Str} {a b : Nat} (h : nameB l a b = true) : l.length ≤ b := by
  unfold nameB at h
  simp only [Bool.and_eq_true, decide_eq_true_eq] at h
  exact h.1.1
theorem pat_len {p : ByteArray} (h : patOk p = true) : p.data.toList.length ≤ 64 := by
  unfold patOk pattern at h
  split at h
  · next hi => exact name_len hi
  · split at h
    · have := name_len h
      rw [List.length_drop] at this
      omega
    · cases h
theorem join_len : ∀ {ps : List ByteArray}, (∀ p ∈ ps, patOk p = true) → (joinP ps).length ≤ 66 * ps.length ∧ cntB (joinP ps) ≤ ps.length
  | [], _ => ⟨Nat.le_refl _, Nat.le_refl _⟩
  | [p], h => by
    have h1 := pat_len (h p (by simp))
    have h2 := cntB_wordy (pat_wordy (h p (by simp)))
    exact ⟨by show p.data.toList.length ≤ _; simp only [List.length_singleton]; omega, by show cntB p.data.toList ≤ _; rw [h2]; exact Nat.zero_le _⟩
  | p :: q :: l, h => by
    have h1 := pat_len (h p (by simp))
    have h2 := cntB_wordy (pat_wordy (h p (by simp)))
    obtain ⟨h3, h4⟩ := join_len (ps := q :: l) fun x hx => h x (List.mem_cons_of_mem _ hx)
    have e : cntB ([44, 32] : Str) = 1 := by decide
    constructor
    · show (p.data.toList ++ ([44, 32] ++ joinP (q :: l))).length ≤ _
      simp only [List.length_append, List.length_cons, List.length_nil] at h3 ⊢
      omega
    · show cntB (p.data.toList ++ ([44, 32] ++ joinP (q :: l))) ≤ _
      rw [cntB_app, cntB_app, e, h2]
      simp only [List.length_cons] at h4 ⊢
      omega
theorem dec_len (n : Int) (h : n < 100000000000000000000) : (decS n).length ≤ 20 ∧ cntB (decS n) = 0 := by
  refine ⟨?_, cntB_wordy (dec_wordy _)⟩
  unfold decS
  rw [Lib.decDigits_length]
  exact digits_le 19 _ (by omega)
theorem key_len (r : Rul) (h : r.keyMin < 100000000000000000000) : (keyR r).length ≤ 26 ∧ cntB (keyR r) ≤ 2 := by
  unfold keyR
  have hd := dec_len r.keyMin h
  have e1 : cntB ([107, 101, 121, 32] : Str) = 1 := by decide
  have e2 : cntB ([59, 32] : Str) = 1 := by decide
  split
  · rw [cntB_app, cntB_app, e1, e2]; simp only [List.length_append, List.length_cons, List.length_nil]; omega
  · exact ⟨by simp, by simp [cntB]⟩
theorem life_len (r : Rul) (h : r.lifeMax < 100000000000000000000) : (lifeR r).length ≤ 27 ∧ cntB (lifeR r) ≤ 2 := by
  unfold lifeR
  have hd := dec_len r.lifeMax h
  have e1 : cntB ([108, 105, 102, 101, 32] : Str) = 1 := by decide
  have e2 : cntB ([59, 32] : Str) = 1 := by decide
  split
  · rw [cntB_app, cntB_app, e1, e2]; simp only [List.length_append, List.length_cons, List.length_nil]; omega
  · exact ⟨by simp, by simp [cntB]⟩
theorem most_len (r : Rul) (h : r.most < 100000000000000000000) (h' : r.window < 100000000000000000000) : (mostR r).length ≤ 52 ∧ cntB (mostR r) ≤ 4 := by
  unfold mostR
  have hd := dec_len r.most h
  have hd' := dec_len r.window h'
  have e1 : cntB ([109, 111, 115, 116, 32] : Str) = 1 := by decide
  have e2 : cntB ([59, 32] : Str) = 1 := by decide
  have e3 : cntB ([32, 112, 101, 114, 32] : Str) = 2 := by decide
  split
  · rw [cntB_app, cntB_app, cntB_app, cntB_app, e1, e2, e3]; simp only [List.length_append, List.length_cons, List.length_nil]; omega
  · exact ⟨by simp, by simp [cntB]⟩
theorem form_small {r : Rul} (h : formB r = true) : r.keyMin < 100000000000000000000 ∧ r.lifeMax < 100000000000000000000 ∧ r.most < 100000000000000000000 ∧ r.window < 100000000000000000000 := by
  obtain ⟨_, _, _, _, hl⟩ := form_parts h
  cases ha : r.allow
  · obtain ⟨h1, h2, h3, h4⟩ := lim_none hl ha
    rw [h1, h2, h3, h4]; decide
  · obtain ⟨h1, h2, h3, h4, h5, h6, h7⟩ := lim_parts hl ha
    refine ⟨by omega, by omega, by omega, ?_⟩
    by_cases hm : 0 < r.most
    · have := (h6 hm).2; omega
    · have := h7 hm; omega
theorem rule_len {r : Rul} (h : formB r = true) : (textR r).length ≤ 663 ∧ cntB (textR r) ≤ 21 := by
  obtain ⟨h1, h2, h3, h4, _⟩ := form_parts h
  obtain ⟨s1, s2, s3, s4⟩ := form_small h
  obtain ⟨j1, j2⟩ := join_len (fun p hp => pats_all h4 p hp)
  obtain ⟨k1, k2⟩ := key_len r s1
  obtain ⟨l1, l2⟩ := life_len r s2
  obtain ⟨m1, m2⟩ := most_len r s3 s4
  have hn : r.name.data.toList.length ≤ 16 := by
    unfold ruleName at h1
    simp only [Bool.and_eq_true, decide_eq_true_eq] at h1
    exact h1.1.2
  have hc := cntB_wordy (name_wordy h1)
  have e0 : (if r.allow then ([97, 108, 108, 111, 119, 32] : Str) else [114, 101, 102, 117, 115, 101, 32]).length ≤ 7 ∧ cntB (if r.allow then ([97, 108, 108, 111, 119, 32] : Str) else [114, 101, 102, 117, 115, 101, 32]) = 1 := by
    cases r.allow <;> decide
  have e1 : cntB ([32, 123, 32] : Str) = 2 := by decide
  have e2 : cntB ([59, 32] : Str) = 1 := by decide
  have e3 : cntB ([125, 10] : Str) = 1 := by decide
  unfold textR bodyR headR
  simp only [cntB_app, List.length_append, List.length_cons, List.length_nil, e1, e2, e3, e0.2, hc]
  omega
theorem rules_len : ∀ {l : List Rul}, (∀ r ∈ l, formB r = true) → (textL l).length ≤ 663 * l.length ∧ cntB (textL l) ≤ 21 * l.length
  | [], _ => ⟨Nat.le_refl _, Nat.le_refl _⟩
  | r :: l, h => by
    have h1 := rule_len (h r (by simp))
    have h2 := rules_len (l := l) fun x hx => h x (List.mem_cons_of_mem _ hx)
    unfold textL at h2 ⊢
    rw [List.flatMap_cons, List.length_append, cntB_app, List.length_cons]
    omega
theorem text_len {l : List Rul} (h : checkE l = 0) : (textL l).length ≤ 21216 := by
  obtain ⟨h1, h2⟩ := check_zero h
  have := (rules_len (rulesOk_forms h1)).1
  omega
theorem blankOut_len {k : Nat} : ∀ (s : Str) (i : Nat), (blankOut k i s).length ≤ s.length + 17 * cntB s
  | [], _ => Nat.le_refl _
  | c :: s, i => by
    have ih := blankOut_len (k := k) s (i + 1)
    unfold blankOut
    rw [List.length_append, List.length_cons]
    have h1 : cntB (c :: s) = cntB s + (if blankB c then 1 else 0) := by unfold cntB; rw [List.countP_cons]
    have h2 : (blankAt k i c).length ≤ 1 + 17 * (if blankB c then 1 else 0) := by
      unfold blankAt
      by_cases hb : c ≠ 32 ∧ c ≠ 10
      · rw [if_pos hb]; simp
      · have hbb : blankB c = true := by
          unfold blankB
          by_cases hc : c = 32
          · simp [hc]
          · have : c = 10 := Classical.byContradiction fun h => hb ⟨hc, h⟩
            simp [this]
        rw [if_neg hb, hbb]
        split
        · simp
        · split <;> simp
    rw [h1]; omega
end Pol
end Go.Proofs.YteemkkmkkgfofaaGreatDoor
namespace Go.Proofs.YteemkkmkkgfofaaGreatDoor
open Go.RowKit Nam Pol Go.Maps

theorem ext_drewR {A B : World} (h : Ext A B) : Ext A B.drew := ext_trans h ((Fr.drew (fun _ => False) B).ext (fun _ _ h => h))
theorem own_low {w : World} {base base' : Nat} {e : TypeId} {m n : Nat} {v : Value} {xs : List Value} (h : w.ownsRow base e m v n xs) (hb : base' ≤ base) : w.ownsRow base' e m v n xs := by
  obtain ⟨h1, h2⟩ := h
  refine ⟨h1, ?_⟩
  rcases h2 with h2 | ⟨g, cap, cur, a1, a2, a3⟩
  · exact .inl h2
  · exact .inr ⟨g, cap, cur, a1, Nat.le_trans hb a2, a3⟩
theorem infoStrR : (Tryz.prog.info? 9).map (fun i => (i.zero, i.size, i.bytes)) = some (some (.string ⟨#[]⟩), 1, 16) := by kernel_rfl
/-- What stands in memory while a rule is read: the reader's box rb, the rule's box xb, its patterns' row. -/
structure RS (w0 wr : World) (rb : Nat) (ba : Option Addr) (n bc : Nat) (s : Str) (xb : Nat) (nm : ByteArray) (al : Bool) (pv : Value) (acc : List ByteArray) (T : List Tok) (k l m p : Int) : Prop where
  box : XB wr xb nm al pv k l m p
  own : wr.ownsRow (xb + 1) 9 1 pv acc.length (acc.map Value.string)
  sz : ∀ q ∈ acc, q.size ≤ maxLen
  rd : RdS wr rb ba n bc s T
  fr : Fr (· = rb) w0 wr
  lt : rb < w0.heap.size
  bl : ∀ p, ba = some p → s ≠ [] → p.block < w0.heap.size
  base : w0.heap.size ≤ xb
section
variable {w0 wr w' : World} {rb : Nat} {ba : Option Addr} {n bc : Nat} {s : Str} {xb : Nat} {nm : ByteArray} {al : Bool} {pv : Value} {acc : List ByteArray} {T T' : List Tok} {k l m p : Int}
theorem RS.call (h : RS w0 wr rb ba n bc s xb nm al pv acc T k l m p) (hF : Fr (· = rb) wr w') (hR : RdS w' rb ba n bc s T') : RS w0 w' rb ba n bc s xb nm al pv acc T' k l m p := by
  have h1 := h.lt; have h2 := h.base
  exact ⟨h.box.fr hF (fun e => by have e' : xb = rb := e; omega), own_fr h.own hF (fun g hg e => by have := own_ge h.own g hg; have e' : g = rb := e; omega), h.sz, hR, h.fr.trans hF, h.lt, h.bl, h.base⟩
theorem RS.ext (h : RS w0 wr rb ba n bc s xb nm al pv acc T k l m p) (hE : Ext wr w') : RS w0 w' rb ba n bc s xb nm al pv acc T k l m p := h.call (Fr.of_ext hE) (h.rd.ext hE)
theorem RS.setx (h : RS w0 wr rb ba n bc s xb nm al pv acc T k l m p) (j : Nat) (v : Value) {k' l' m' p' : Int} (hx : XB (wr.setCell ⟨xb, j, none⟩ v) xb nm al pv k' l' m' p') : RS w0 (wr.setCell ⟨xb, j, none⟩ v) rb ba n bc s xb nm al pv acc T k' l' m' p' := by
  have h1 := h.lt; have h2 := h.base
  have hF : Fr (fun b => b = xb) wr (wr.setCell ⟨xb, j, none⟩ v) := Fr.setCell (S := fun b => b = xb) _ ⟨xb, j, none⟩ _ rfl
  exact ⟨hx, own_fr h.own hF (fun g hg e => by have := own_ge h.own g hg; have e' : g = xb := e; omega), h.sz, h.rd.fr hF (fun e => by have e' : rb = xb := e; omega) (fun p hp hs e => by have := h.bl p hp hs; have e' : p.block = xb := e; omega), h.fr.onto hF (fun i hi e => by have e' : i = xb := e; omega), h.lt, h.bl, h.base⟩
theorem RS.s3 (h : RS w0 wr rb ba n bc s xb nm al pv acc T k l m p) (x : Int) : RS w0 (wr.setCell ⟨xb, 3, none⟩ (.int .u64 x)) rb ba n bc s xb nm al pv acc T x l m p := h.setx 3 _ (h.box.s3 x)
theorem RS.s4 (h : RS w0 wr rb ba n bc s xb nm al pv acc T k l m p) (x : Int) : RS w0 (wr.setCell ⟨xb, 4, none⟩ (.int .i64 x)) rb ba n bc s xb nm al pv acc T k x m p := h.setx 4 _ (h.box.s4 x)
theorem RS.s5 (h : RS w0 wr rb ba n bc s xb nm al pv acc T k l m p) (x : Int) : RS w0 (wr.setCell ⟨xb, 5, none⟩ (.int .i64 x)) rb ba n bc s xb nm al pv acc T k l x p := h.setx 5 _ (h.box.s5 x)
theorem RS.s6 (h : RS w0 wr rb ba n bc s xb nm al pv acc T k l m p) (x : Int) : RS w0 (wr.setCell ⟨xb, 6, none⟩ (.int .i64 x)) rb ba n bc s xb nm al pv acc T k l m x := h.setx 6 _ (h.box.s6 x)
theorem RS.tok (h : RS w0 wr rb ba n bc s xb nm al pv acc T k l m p) : wr.cell? ⟨rb, 2, none⟩ = some (.string (hdT T)) := h.rd.rd.blk.cells.2.2
theorem str_cells (x : ByteArray) : ([Value.string x]).length = 1 := rfl
theorem flat_str (acc : List ByteArray) : acc.flatMap (fun x => [Value.string x]) = acc.map Value.string := by
  induction acc with
  | nil => rfl
  | cons x l ih => rw [List.flatMap_cons, ih]; rfl
theorem RS.strs (h : RS w0 wr rb ba n bc s xb nm al pv acc T k l m p) : ∃ a c, pv = .slice a acc.length c ∧ acc.length ≤ c ∧ c ≤ maxLen ∧ Strs wr a acc := by
  have := own_slv (cells := fun x => [Value.string x]) (R := StrAt) (l := acc) (fun x => rfl) (fun b o x hx hc => ⟨hc 0 _ rfl, h.sz x hx⟩) rfl (by rw [flat_str]; exact h.own)
  obtain ⟨a, c, h1, h2, h3, h4⟩ := this
  exact ⟨a, c, h1, h2, h3, h4⟩
/-- Behind append, and the store of what it gives. -/
theorem RS.app (h : RS w0 wr rb ba n bc s xb nm al pv acc T k l m p) {x : ByteArray} {g cap : Nat} {o : Obj} (hown : w'.ownsRow (xb + 1) 9 1 (.slice (some ⟨g, 0, none⟩) (acc.length + 1) cap) (acc.length + 1) (acc.map Value.string ++ [.string x])) (hg : (wr.alloc o).grownBy w' pv.ownBlock) (hx : x.size ≤ maxLen) :
    RS w0 (w'.setCell ⟨xb, 2, none⟩ (.slice (some ⟨g, 0, none⟩) (acc.length + 1) cap)) rb ba n bc s xb nm al (.slice (some ⟨g, 0, none⟩) (acc ++ [x]).length cap) (acc ++ [x]) T k l m p := by
  have h1 := h.lt; have h2 := h.base; have h3 := h.box.lt; have h4 := h.fr.size
  have hF : Fr (fun b => pv.ownBlock = some b) wr w' := (Fr.of_ext (ext_alloc (Below.refl _ wr) o)).trans (Fr.grown hg)
  have hFx : Fr (fun b => b = xb) w' (w'.setCell ⟨xb, 2, none⟩ (.slice (some ⟨g, 0, none⟩) (acc.length + 1) cap)) := Fr.setCell (S := fun b => b = xb) _ ⟨xb, 2, none⟩ _ rfl
  have hge := own_ge h.own
  have hx1 : XB w' xb nm al pv k l m p := h.box.fr hF (fun e => by have := hge xb e; omega)
  have hr1 := h.rd.fr hF (fun e => by have := hge rb e; omega) (fun p hp hs e => by have := hge _ e; have := h.bl p hp hs; omega)
  have hg' := own_ge hown g rfl
  have hl : (acc ++ [x]).length = acc.length + 1 := by simp
  have hm : (acc ++ [x]).map Value.string = acc.map Value.string ++ [.string x] := by simp
  refine ⟨by rw [hl]; exact hx1.s2 _, by rw [hl, hm]; exact own_fr hown hFx (fun b hb e => by have e' : b = xb := e; have := own_ge hown b hb; omega), fun q hq => ?_, hr1.fr hFx (fun e => by have e' : rb = xb := e; omega) (fun p hp hs e => by have e' : p.block = xb := e; have := h.bl p hp hs; omega), ?_, h.lt, h.bl, h.base⟩
  · rcases List.mem_append.1 hq with hq | hq
    · exact h.sz q hq
    · rw [List.mem_singleton] at hq; rw [hq]; exact hx
  · exact (h.fr.onto hF (fun i hi e => by have := hge i e; omega)).onto hFx (fun i hi e => by have e' : i = xb := e; have := h.fr.size; omega)
end
theorem RS.appx {w0 wr w' : World} {rb : Nat} {ba : Option Addr} {n bc : Nat} {s : Str} {xb : Nat} {nm : ByteArray} {al : Bool} {pv : Value} {acc : List ByteArray} {T : List Tok} {k l m p : Int} (h : RS w0 wr rb ba n bc s xb nm al pv acc T k l m p) {o : Obj} (hg : (wr.alloc o).grownBy w' pv.ownBlock) : XB w' xb nm al pv k l m p := by
  have hF : Fr (fun b => pv.ownBlock = some b) wr w' := (Fr.of_ext (ext_alloc (Below.refl _ wr) o)).trans (Fr.grown hg)
  exact h.box.fr hF (fun e => by have := own_ge h.own xb e; omega)
theorem one_new (w : World) (v : Value) (t : TypeId) : ∀ (j : Nat) (u : Value), [v][j]? = some u → (w.alloc (.cells #[v] t)).cell? ((⟨w.heap.size, 0, none⟩ : Addr).add j) = some u := fun j u h => by
  match j, h with
  | 0, h =>
    simp at h; subst h
    rw [addr_add]
    unfold World.cell?
    rw [show (w.alloc (.cells #[v] t)).heap[(⟨w.heap.size, 0 + 0, none⟩ : Addr).block]? = some (.cells #[v] t (0, 0)) from World.alloc_heap_new w (.cells #[v] t)]
    rfl
  | j + 1, h => simp at h
/-- How many patterns a rule's box holds. -/
def patsLen (w : World) (xb : Nat) : Nat := match w.cell? ⟨xb, 2, none⟩ with
  | some (.slice _ n _) => n
  | _ => 0
theorem patsLen_at {w : World} {xb : Nat} {a : Option Addr} {n c : Nat} (h : w.cell? ⟨xb, 2, none⟩ = some (.slice a n c)) : patsLen w xb = n := by
  unfold patsLen; rw [h]
/-- Does the token at hand fit as a pattern? -/
def fitsB (acc : List ByteArray) (T : List Tok) : Bool := (decide (acc.length < 8) && patOk (hdT T)) && !memB acc (hdT T)
theorem pats_bad {acc : List ByteArray} {T : List Tok} (h : fitsB acc T = false) (hl : acc.length ≤ 8) : patsP (8 - acc.length) acc T = .error (hdP T, 71) := by
  by_cases h8 : acc.length = 8
  · rw [h8]; rfl
  · obtain ⟨j, hj⟩ : ∃ j, 8 - acc.length = j + 1 := ⟨8 - acc.length - 1, by omega⟩
    rw [hj]
    unfold patsP
    unfold fitsB at h
    rw [show decide (acc.length < 8) = true by rw [decide_eq_true_iff]; omega, Bool.true_and] at h
    rw [if_neg (by rw [h]; simp)]; rfl
theorem pats_fit {acc : List ByteArray} {T : List Tok} (h : fitsB acc T = true) : acc.length < 8 ∧ patsP (8 - acc.length) acc T = if hdT (tlT T) = tComma then patsP (8 - (acc ++ [hdT T]).length) (acc ++ [hdT T]) (tlT (tlT T)) else .ok (acc ++ [hdT T], tlT T) := by
  unfold fitsB at h
  have h8 : acc.length < 8 := by
    rw [Bool.and_eq_true, Bool.and_eq_true, decide_eq_true_iff] at h; exact h.1.1
  refine ⟨h8, ?_⟩
  obtain ⟨j, hj⟩ : ∃ j, 8 - acc.length = j + 1 := ⟨8 - acc.length - 1, by omega⟩
  have hj2 : 8 - (acc ++ [hdT T]).length = j := by simp; omega
  rw [hj, hj2]
  rw [show decide (acc.length < 8) = true by rw [decide_eq_true_iff]; exact h8, Bool.true_and] at h
  conv => lhs; unfold patsP
  rw [if_pos h]
theorem take_bad {f : ByteArray → Bool} {T : List Tok} (h : f (hdT T) = false) : takeP f T = .error (hdP T, 71) := by
  unfold takeP; rw [h]; rfl
theorem take_fit {f : ByteArray → Bool} {T : List Tok} (h : f (hdT T) = true) : takeP f T = .ok (hdT T, tlT T) := by
  unfold takeP; rw [h]; rfl
theorem num_bound {most : Nat} {T : List Tok} {a : Nat × List Tok} (h : numP most T = .ok a) : 1 ≤ a.1 ∧ a.1 ≤ most := by
  unfold numP at h
  split at h
  · next k hk => cases h; exact num_of hk
  · cases h
theorem tok_lit {T : List Tok} {l : List UInt8} {b : Bool} (h : ((hdT T).toList == l) = b) : (hdT T = bA l) ↔ b = true := by
  rw [← h, beq_iff_eq, Lib.toList_data]
  constructor
  · intro e; rw [e]
  · intro e; exact bytes_eq (by simpa [bA] using e)
theorem bind_err {α β : Type} (x : Nat × Int) (f : α → PR β) : ((Except.error x : PR α) >>= f) = .error x := rfl
/-- What is behind the limits. -/
def endP (nm : ByteArray) (al : Bool) (ps : List ByteArray) (a : (Nat × Nat × Nat × Nat) × List Tok) : PR (Rul × List Tok) := wantP tShut a.2 >>= fun T => .ok (⟨nm, al, ps, a.1.1, a.1.2.1, a.1.2.2.1, a.1.2.2.2⟩, T)
theorem rule_to {ahead : List Rul} {T T2 T3 Tj : List Tok} {nm : ByteArray} {acc : List ByteArray} {al : Bool} (h1 : hdT T = tAllow ∨ hdT T = tRefuse) (h2 : ¬ ahead.length = 32) (h3 : takeP (nameFits ahead) (tlT T) = .ok (nm, T2)) (h4 : wantP ⟨#[123]⟩ T2 = .ok T3)
    (h5 : patsP 8 [] T3 = .ok (acc, Tj)) (h6 : decide (hdT T = tAllow) = al) : ruleP ahead T = (wantP ⟨#[59]⟩ Tj >>= fun T5 => limP al T5 >>= endP nm al acc) := by
  unfold ruleP
  rw [if_pos h1, if_neg h2, h3, bind_ok]
  dsimp only
  rw [show tOpen = ⟨#[123]⟩ from rfl, h4, bind_ok, h5, bind_ok]
  dsimp only
  rw [h6]
  rfl
theorem pats_err {ahead : List Rul} {T T2 T3 : List Tok} {nm : ByteArray} {x : Nat × Int} (h1 : hdT T = tAllow ∨ hdT T = tRefuse) (h2 : ¬ ahead.length = 32) (h3 : takeP (nameFits ahead) (tlT T) = .ok (nm, T2)) (h4 : wantP ⟨#[123]⟩ T2 = .ok T3)
    (h5 : patsP 8 [] T3 = .error x) : ruleP ahead T = .error x := by
  unfold ruleP
  rw [if_pos h1, if_neg h2, h3, bind_ok]
  dsimp only
  rw [show tOpen = ⟨#[123]⟩ from rfl, h4, bind_ok, h5]
  rfl
theorem lim_no (T : List Tok) : limP false T = .ok ((0, 0, 0, 0), T) := rfl
theorem lim_yes (T : List Tok) : limP true T = (keyP T >>= fun a => lifeP a.2 >>= fun b => mostP b.2 >>= fun c => .ok ((a.1, b.1, c.1.1, c.1.2), c.2)) := by
  unfold limP; rfl
theorem key_no {T : List Tok} (h : ¬ hdT T = bA [107, 101, 121]) : keyP T = .ok (0, T) := by unfold keyP; exact if_neg h
theorem key_yes {T : List Tok} (h : hdT T = bA [107, 101, 121]) : keyP T = (numP 2305843009213691579 (tlT T) >>= fun a => wantP ⟨#[59]⟩ a.2 >>= fun T => .ok (a.1, T)) := by unfold keyP; rw [if_pos (show hdT T = tKey from h)]; rfl
theorem life_eq (T : List Tok) : lifeP T = (wantP ⟨#[108, 105, 102, 101]⟩ T >>= fun T => numP 1000 T >>= fun a => wantP ⟨#[59]⟩ a.2 >>= fun T => .ok (a.1, T)) := rfl
theorem most_no {T : List Tok} (h : ¬ hdT T = bA [109, 111, 115, 116]) : mostP T = .ok ((0, 0), T) := by unfold mostP; exact if_neg h
theorem most_yes {T : List Tok} (h : hdT T = bA [109, 111, 115, 116]) : mostP T = (numP 1000 (tlT T) >>= fun a => wantP ⟨#[112, 101, 114]⟩ a.2 >>= fun T => numP 1099511627776 T >>= fun b => wantP ⟨#[59]⟩ b.2 >>= fun T => .ok ((a.1, b.1), T)) := by unfold mostP; rw [if_pos (show hdT T = tMost from h)]; rfl
end Go.Proofs.YteemkkmkkgfofaaGreatDoor
