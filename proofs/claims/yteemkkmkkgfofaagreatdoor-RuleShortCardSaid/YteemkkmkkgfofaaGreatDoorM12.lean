/- Maps that a call makes: lists of keys and values, in the order in which the keys came; lookups, stores, the length. Walks of the program's functions on rules: Check. A region's walk: a guarded 'or'. Walks of the reader of rules: its memory; wrong. -/
import Derived.Test.YteemkkmkkgfofaaGreatDoorM01
import Derived.Maps.OwnIn
import Derived.Test.YteemkkmkkgfofaaGreatDoorM11
import Derived.Test.YteemkkmkkgfofaaGreatDoorM08
import Derived.Test.YteemkkmkkgfofaaGreatDoorM04
namespace Go.Proofs.YteemkkmkkgfofaaGreatDoor
open Go.RowKit Go.Maps
open Go.ChangeMaps (setBlock heap_setBlock_same heap_setBlock_other)

/-- How keys of a plain type stand as values: read as keys, apart where they are. -/
structure KEnc {K : Type} (P : Program) (kt : TypeId) (enc : K → Value) (Ok : K → Prop) : Prop where
  keyed : Keyed P kt
  key : ∀ k, Ok k → ∃ l, keyOf P kt (enc k) = some l
  inj : ∀ a b, enc a = enc b → a = b
section
variable {K : Type} [DecidableEq K]
/-- What stands at a key. -/
def look : List (K × Value) → K → Option Value
  | [], _ => none
  | p :: m, k => if p.1 = k then some p.2 else look m k
/-- The list behind a store. -/
def mput : List (K × Value) → K → Value → List (K × Value)
  | [], k, v => [(k, v)]
  | p :: m, k, v => if p.1 = k then (k, v) :: m else p :: mput m k v
theorem look_none {m : List (K × Value)} {k : K} : look m k = none ↔ ∀ p ∈ m, p.1 ≠ k := by
  induction m with
  | nil => simp [look]
  | cons p m ih =>
    unfold look
    split
    · rename_i h; simp [h]
    · rename_i h; rw [ih]; simp [h]
theorem look_at {m : List (K × Value)} (hnd : m.Pairwise fun p q => p.1 ≠ q.1) : ∀ {j : Nat} {p : K × Value}, m[j]? = some p → look m p.1 = some p.2 := by
  induction m with
  | nil => intro j p h; simp at h
  | cons q m ih =>
    obtain ⟨h1, h2⟩ := List.pairwise_cons.1 hnd
    intro j p h
    cases j with
    | zero => simp at h; subst h; simp [look]
    | succ j =>
      have hm : m[j]? = some p := by simpa using h
      have hne := h1 p (List.mem_of_getElem? hm)
      simp [look, hne, ih h2 hm]
theorem look_mput (m : List (K × Value)) (k : K) (v : Value) (k' : K) : look (mput m k v) k' = if k = k' then some v else look m k' := by
  induction m with
  | nil => simp [mput, look]
  | cons p m ih =>
    unfold mput
    by_cases h : p.1 = k
    · rw [if_pos h]; subst h
      by_cases h2 : p.1 = k' <;> simp [look, h2]
    · rw [if_neg h]
      by_cases h2 : p.1 = k'
      · have : ¬ k = k' := fun e => h (h2.trans e.symm)
        simp [look, h2, this]
      · simp [look, h2, ih]
theorem mput_new {m : List (K × Value)} {k : K} (h : look m k = none) (v : Value) : mput m k v = m ++ [(k, v)] := by
  induction m with
  | nil => rfl
  | cons p m ih =>
    unfold look at h
    split at h
    · cases h
    · rename_i hp
      unfold mput; rw [if_neg hp, ih h]; rfl
theorem mput_at {m : List (K × Value)} (hnd : m.Pairwise fun p q => p.1 ≠ q.1) : ∀ {j : Nat} {p : K × Value} (v : Value), m[j]? = some p → mput m p.1 v = m.set j (p.1, v) := by
  induction m with
  | nil => intro j p v h; simp at h
  | cons q m ih =>
    obtain ⟨h1, h2⟩ := List.pairwise_cons.1 hnd
    intro j p v h
    cases j with
    | zero => simp at h; subst h; simp [mput]
    | succ j =>
      have hm : m[j]? = some p := by simpa using h
      have hne := h1 p (List.mem_of_getElem? hm)
      unfold mput
      rw [if_neg hne, ih h2 v hm]; rfl
theorem mput_keys (m : List (K × Value)) (k : K) (v : Value) : ∀ q ∈ mput m k v, q.1 = k ∨ q ∈ m := by
  induction m with
  | nil => intro q h; simp [mput] at h; simp [h]
  | cons p m ih =>
    intro q h
    unfold mput at h
    split at h
    · rcases List.mem_cons.1 h with rfl | h
      · simp
      · right; simp [h]
    · rcases List.mem_cons.1 h with rfl | h
      · right; simp
      · rcases ih q h with h | h
        · exact .inl h
        · right; simp [h]
theorem mput_nodup {m : List (K × Value)} (hnd : m.Pairwise fun p q => p.1 ≠ q.1) (k : K) (v : Value) : (mput m k v).Pairwise fun p q => p.1 ≠ q.1 := by
  induction m with
  | nil => simp [mput]
  | cons p m ih =>
    obtain ⟨h1, h2⟩ := List.pairwise_cons.1 hnd
    unfold mput
    split
    · rename_i h; subst h; exact List.pairwise_cons.2 ⟨h1, h2⟩
    · rename_i h
      refine List.pairwise_cons.2 ⟨fun q hq => ?_, ih h2⟩
      rcases mput_keys m k v q hq with e | hq
      · rw [e]; exact h
      · exact h1 q hq
theorem mput_length (m : List (K × Value)) (k : K) (v : Value) : (mput m k v).length = if (look m k).isSome then m.length else m.length + 1 := by
  induction m with
  | nil => simp [mput, look]
  | cons p m ih =>
    unfold mput look
    by_cases h : p.1 = k
    · simp [h]
    · simp only [h, if_false, List.length_cons, ih]
      split <;> rfl
/-- Block b is a map that holds m. -/
structure MapIs (P : Program) (kt : TypeId) (enc : K → Value) (Ok : K → Prop) (w : World) (b : Nat) (m : List (K × Value)) : Prop where
  heap : ∃ es clock, w.heap[b]? = some (.map es clock) ∧ es.toList.map (fun e => (e.key, e.val)) = m.map (fun p => (enc p.1, p.2))
  ok : ∀ p ∈ m, Ok p.1
  apart : m.Pairwise fun p q => p.1 ≠ q.1
variable {P : Program} {kt et mt : TypeId} {enc : K → Value} {Ok : K → Prop} {w : World} {b : Nat} {m : List (K × Value)}
omit [DecidableEq K] in
theorem MapIs.made (P : Program) (kt : TypeId) (enc : K → Value) (Ok : K → Prop) (w : World) : MapIs P kt enc Ok (w.alloc (.map #[] 0)) w.heap.size [] :=
  ⟨⟨#[], 0, by have := World.alloc_heap_new w (.map #[] 0); exact this, rfl⟩, by simp, List.Pairwise.nil⟩
omit [DecidableEq K] in
theorem MapIs.lt (h : MapIs P kt enc Ok w b m) : b < w.heap.size := by
  obtain ⟨es, clock, hb, _⟩ := h.heap
  exact (Array.getElem?_eq_some_iff.1 hb).1
omit [DecidableEq K] in
theorem MapIs.of_block {w' : World} (h : MapIs P kt enc Ok w b m) (hb : w'.heap[b]? = w.heap[b]?) : MapIs P kt enc Ok w' b m := by
  obtain ⟨es, clock, h1, h2⟩ := h.heap
  exact ⟨⟨es, clock, hb.trans h1, h2⟩, h.ok, h.apart⟩
omit [DecidableEq K] in
theorem MapIs.fr {S : Nat → Prop} {w' : World} (h : MapIs P kt enc Ok w b m) (hf : Fr S w w') (hs : ¬ S b) : MapIs P kt enc Ok w' b m := h.of_block (hf.block b h.lt hs)
omit [DecidableEq K] in
theorem MapIs.ext {w' : World} (h : MapIs P kt enc Ok w b m) (hE : Ext w w') : MapIs P kt enc Ok w' b m := h.of_block (hE.block b h.lt)
theorem MapIs.find (h : MapIs P kt enc Ok w b m) (E : KEnc P kt enc Ok) {k : K} (hk : Ok k) : ∃ es clock, w.heap[b]? = some (.map es clock) ∧ es.toList.map (fun e => (e.key, e.val)) = m.map (fun p => (enc p.1, p.2)) ∧
    ((look m k = none ∧ (Instr.findKey kt (enc k) es.toList).run P w = .ok none w) ∨
      ∃ j e v, look m k = some v ∧ e.val = v ∧ e.key = enc k ∧ es.toList[j]? = some e ∧ m[j]? = some (k, v) ∧ (Instr.findKey kt (enc k) es.toList).run P w = .ok (some (j, v)) w) := by
  obtain ⟨es, clock, hb, hes⟩ := h.heap
  refine ⟨es, clock, hb, hes, ?_⟩
  obtain ⟨l, hl⟩ := E.key k hk
  have back : ∀ (j : Nat) (e : MapEntry), es.toList[j]? = some e → ∃ p, m[j]? = some p ∧ e.key = enc p.1 ∧ e.val = p.2 := fun j e he => by
    have := congrArg (fun l => l[j]?) hes
    simp only [List.getElem?_map, he, Option.map_some] at this
    cases hm : m[j]? with
    | none => rw [hm] at this; simp at this
    | some p => rw [hm] at this; simp at this; exact ⟨p, rfl, this.1, this.2⟩
  have hks : ∀ e ∈ es.toList, ∃ l, keyOf P kt e.key = some l := fun e he => by
    obtain ⟨j, hj, rfl⟩ := List.getElem_of_mem he
    obtain ⟨p, hp, h1, _⟩ := back j _ (List.getElem?_eq_getElem hj)
    rw [h1]; exact E.key _ (h.ok p (List.mem_of_getElem? hp))
  rcases E.keyed.find w hl es.toList hks with ⟨h1, h2⟩ | ⟨j, e, h1, h2, h3⟩
  · refine .inl ⟨look_none.2 (fun p hp hpk => ?_), h1⟩
    obtain ⟨j, hj, rfl⟩ := List.getElem_of_mem hp
    have := congrArg (fun l => l[j]?) hes
    simp only [List.getElem?_map, List.getElem?_eq_getElem hj, Option.map_some] at this
    cases he : es.toList[j]? with
    | none => rw [he] at this; simp at this
    | some e =>
      rw [he] at this; simp at this
      exact h2 e (List.mem_of_getElem? he) (by rw [this.1, hpk])
  · obtain ⟨p, hp, h4, h5⟩ := back j e h2
    have hpk : p.1 = k := E.inj _ _ (by rw [← h4, h3])
    subst hpk
    exact .inr ⟨j, e, p.2, look_at h.apart hp, h5, h3, h2, hp, by rw [h1, h5]⟩
/-- 'm[k]'. -/
theorem MapIs.run_lookup (h : MapIs P kt enc Ok w b m) (E : KEnc P kt enc Ok) (ht : P.underlying mt = some (.map kt et)) {z : Value} (hz : (zeroValue et).run P w = .ok z w) {k : K} (hk : Ok k) :
    (Instr.lookup mt (.map (some b)) (enc k) false).run P w = .ok ((look m k).getD z) w := by
  obtain ⟨es, clock, hb, hes, hf⟩ := h.find E hk
  obtain ⟨l, hl⟩ := E.key k hk
  rcases hf with ⟨h1, h2⟩ | ⟨j, e, v, h1, _, _, _, _, h2⟩
  · simp [Instr.lookup, run_underlying ht, MapKept.run_getObj_map hb, E.keyed.check w _ hl, h2, h1, hz, Result.andThen]
  · simp [Instr.lookup, run_underlying ht, MapKept.run_getObj_map hb, E.keyed.check w _ hl, h2, h1, Result.andThen]
/-- 'v, ok := m[k]'. -/
theorem MapIs.run_lookup_ok (h : MapIs P kt enc Ok w b m) (E : KEnc P kt enc Ok) (ht : P.underlying mt = some (.map kt et)) {z : Value} (hz : (zeroValue et).run P w = .ok z w) {k : K} (hk : Ok k) :
    (Instr.lookup mt (.map (some b)) (enc k) true).run P w = .ok (.tuple #[(look m k).getD z, .bool (look m k).isSome]) w := by
  obtain ⟨es, clock, hb, hes, hf⟩ := h.find E hk
  obtain ⟨l, hl⟩ := E.key k hk
  rcases hf with ⟨h1, h2⟩ | ⟨j, e, v, h1, _, _, _, _, h2⟩
  · simp [Instr.lookup, run_underlying ht, MapKept.run_getObj_map hb, E.keyed.check w _ hl, h2, h1, hz, Result.andThen]
  · simp [Instr.lookup, run_underlying ht, MapKept.run_getObj_map hb, E.keyed.check w _ hl, h2, h1, Result.andThen]
theorem fr_setBlock {w : World} {b : Nat} {es : Array MapEntry} {clock : Nat} (hb : w.heap[b]? = some (.map es clock)) (o : Obj) : Fr (fun k => k = b) w (setBlock w b o) :=
  ⟨rfl, rfl, rfl, by simp [setBlock], fun i _ hi => heap_setBlock_other hb _ hi⟩
/-- 'm[k] = v'. -/
theorem MapIs.run_update (h : MapIs P kt enc Ok w b m) (E : KEnc P kt enc Ok) (ht : P.underlying mt = some (.map kt et)) {k : K} (hk : Ok k) (v : Value) :
    ∃ w', (Instr.mapUpdate mt (.map (some b)) (enc k) v).run P w = .ok () w' ∧ MapIs P kt enc Ok w' b (mput m k v) ∧ Fr (fun k => k = b) w w' ∧ w'.heap.size = w.heap.size := by
  obtain ⟨es, clock, hb, hes, hf⟩ := h.find E hk
  obtain ⟨l, hl⟩ := E.key k hk
  have hok : ∀ p ∈ mput m k v, Ok p.1 := fun p hp => by
    rcases mput_keys m k v p hp with e | hp
    · rw [e]; exact hk
    · exact h.ok p hp
  rcases hf with ⟨h1, h2⟩ | ⟨j, e, u, h1, h3, h4, h5, h6, h2⟩
  · refine ⟨setBlock w b (.map (es.push ⟨enc k, v, clock⟩) (clock + 1)), ?_, ⟨⟨_, _, heap_setBlock_same hb _, ?_⟩, hok, mput_nodup h.apart k v⟩, fr_setBlock hb _, by simp [setBlock]⟩
    · simp [Instr.mapUpdate, run_underlying ht, MapKept.run_getObj_map hb, E.keyed.check w false hl, h2, MapKept.run_setObj_map _ hb, Result.andThen, setBlock]
    · rw [mput_new h1]
      simp [hes]
  · have hj : es[j]? = some e := by simpa using h5
    refine ⟨setBlock w b (.map (es.modify j (fun e' => { e' with key := enc k, val := v })) clock), ?_, ⟨⟨_, _, heap_setBlock_same hb _, ?_⟩, hok, mput_nodup h.apart k v⟩, fr_setBlock hb _, by simp [setBlock]⟩
    · simp [Instr.mapUpdate, run_underlying ht, MapKept.run_getObj_map hb, E.keyed.check w false hl, h2, hj, h4, E.keyed.stays w hl, MapKept.run_setObj_map _ hb, Result.andThen, setBlock]
    · rw [mput_at h.apart (p := (k, u)) v h6, Array.toList_modify, ChangeMaps.modify_eq_set _ _ _ _ h5, List.map_set, List.map_set, hes]
omit [DecidableEq K] in
/-- 'len(m)'. -/
theorem MapIs.run_len (h : MapIs P kt enc Ok w b m) (ht : P.underlying mt = some (.map kt et)) (ty : TypeId) : (Builtin.len_ #[mt] ty #[.map (some b)]).run P w = .ok (.int .i64 m.length) w := by
  obtain ⟨es, clock, hb, hes⟩ := h.heap
  have hl : es.size = m.length := by have := congrArg List.length hes; simpa using this
  simp [Builtin.len_, run_underlying ht, MapKept.run_getObj_map hb, Result.andThen, hl, goInt]
variable {ops : Array Oper} {rest : List Oper} {o : Oper} {a : Act} {Q : Exit → Act → World → Prop}
theorem wpList_mapUpdate_is (hg : o.guard = none) (mo x v : Operand) (t : TypeId) (hop : o.op = Op.mapUpdate t mo x v) (E : KEnc P kt enc Ok) (ht : P.underlying t = some (.map kt et))
    (hm : a.eval mo = .map (some b)) (h : MapIs P kt enc Ok w b m) (k : K) (val : Value) (hx : a.eval x = enc k) (hv : a.eval v = val) (hk : Ok k)
    (hK : ∀ w', MapIs P kt enc Ok w' b (mput m k val) → Fr (fun k => k = b) w w' → w'.heap.size = w.heap.size → wpList P ops Q rest (a.put o.dst undef) w') :
    wpList P ops Q (o :: rest) a w := by
  refine wpList_plain hg fun K' hK' => ?_
  obtain ⟨w', hrun, r1, r2, r3⟩ := h.run_update E ht hk val
  unfold Oper.wp
  simp [execOp, hop, hm, hx, hv, hrun, Result.andThen]
  exact hK' _ _ (hK w' r1 r2 r3)
omit [DecidableEq K] in
theorem wpList_len_is (hg : o.guard = none) (mo : Operand) (t : TypeId) (hop : o.op = Op.call { callee := Callee.builtin Builtin.len, args := #[mo], argTypes := #[t] }) (ht : P.underlying t = some (.map kt et))
    (hm : a.eval mo = .map (some b)) (h : MapIs P kt enc Ok w b m) (hK : wpList P ops Q rest (a.put o.dst (.int .i64 m.length)) w) :
    wpList P ops Q (o :: rest) a w := by
  refine wpList_plain hg fun K' hK' => ?_
  unfold Oper.wp
  simp [execOp, hop, resolve, invoke, builtin, hm, h.run_len ht o.type, Result.andThen]
  exact hK' _ _ hK
end
/-- Strings as keys. -/
theorem strKEnc {P : Program} {kt : TypeId} (hk : P.underlying kt = some .string) : KEnc P kt Value.string (fun s : ByteArray => s.size ≤ maxLen) where
  keyed := string_keyed hk
  key := fun s hs => ⟨.string s.data.toList, by simp [keyOf, hk, mapKey, hs]⟩
  inj := fun a b h => by cases h; rfl
/-- Integers as keys. -/
theorem intKEnc {P : Program} {kt : TypeId} {q : IntKind} (hk : P.underlying kt = some (.int q)) : KEnc P kt (Value.int q) (fun n : Int => (Lit.int q n).wf = true) where
  keyed := int_keyed hk
  key := fun n hn => ⟨_, keyOf_int_mk hk hn⟩
  inj := fun a b h => by cases h; rfl
end Go.Proofs.YteemkkmkkgfofaaGreatDoor
namespace Go.Proofs.YteemkkmkkgfofaaGreatDoor
open Go.RowKit Nam Pol Go.Maps
attribute [local go_sem] gv_of

/-- A map whose keys are texts. -/
abbrev NMap (w : World) (b : Nat) (m : List (ByteArray × Value)) : Prop := MapIs Tryz.prog 9 Value.string (fun s : ByteArray => s.size ≤ maxLen) w b m
/-- It tells which of the texts have been seen. -/
def Seen (m : List (ByteArray × Value)) (l : List ByteArray) : Prop := ∀ s, (look m s).getD (.bool false) = .bool (memB l s)
theorem Seen.put {m : List (ByteArray × Value)} {l : List ByteArray} (h : Seen m l) (s : ByteArray) : Seen (mput m s (.bool true)) (l ++ [s]) := fun s' => by
  rw [look_mput, memB_snoc]
  by_cases e : s = s'
  · subst e; simp
  · rw [if_neg e, h s', show (s.data.toList == s'.data.toList) = false from by rw [beq_eq_false_iff_ne]; exact fun hh => e (bytes_eq hh), Bool.or_false]
theorem map_take_snoc {α β : Type} {l : List α} {k : Nat} {x : α} (h : l[k]? = some x) (f : α → β) : (l.take (k + 1)).map f = (l.take k).map f ++ [f x] := by
  rw [List.take_add_one, h]; simp
set_option maxRecDepth 100000 in
set_option maxHeartbeats 4000000 in
theorem pCheck_any (l : List Rul) (a : Option Addr) (cap n : Nat) (w : World) (hn : l.length = n) (hnc : n ≤ cap) (hcm : cap ≤ maxLen) (hl : Ruls w a l) :
    Calls Tryz.prog 12 #[.slice a n cap] w (Ret (.int .i64 (checkE l)) w) := by
  unfold maxLen at hcm
  have HN := Lib.hid hn; have HL := Lib.hid hl; clear hn hl
  have E : KEnc Tryz.prog 9 Value.string (fun s : ByteArray => s.size ≤ maxLen) := strKEnc Tryz.underlying9
  have hmm := @run_makeMap Tryz.prog
  go_enter Tryz.func12, Tryz.ntmps12
  go_wp2_with fail
  obtain ⟨W0, hW0⟩ : ∃ W0, w.alloc (Obj.map #[] 0) = W0 := ⟨_, rfl⟩
  have hE0 : Ext w W0 := by rw [← hW0]; exact ext_alloc (Below.refl _ _) _
  have m0 : NMap W0 w.heap.size [] := by rw [← hW0]; exact MapIs.made _ _ _ _ w
  have HE0 := Lib.hid hE0; have M0 := Lib.hid m0
  rw [hW0]
  clear hW0 hE0 m0
  go_loopw [9] (fun i wr => ∃ (k : Nat) (m : List (ByteArray × Value)), k ≤ n ∧ i = .int .i64 k ∧ rulesOk [] (l.take k) = true ∧ Ext w wr ∧ NMap wr w.heap.size m ∧ Seen m ((l.take k).map (·.name))) (fun i _ => n - (intOf i).toNat)
  case atStart => exact ⟨0, [], Nat.zero_le _, rfl, rfl, HE0.out, M0.out, fun _ => rfl⟩
  case round =>
    obtain ⟨k, m, hk, rfl, hp, hEr, hm, hs⟩ := hrel
    have HP := Lib.hid hp; have HM := Lib.hid hm; have HS := Lib.hid hs; clear hp hm hs
    by_cases hlt : k < n
    · obtain ⟨r, hr⟩ := get_some HN.out hlt
      obtain ⟨b, off, rfl, d0, d1, ⟨pa, pc, d2, l1, l2, hps⟩, d3, d4, d5, d6, hsz, _⟩ := (HL.out.ext hEr) k r hr
      have HT := Lib.hid (rulesOk_take hr)
      have HMT := Lib.hid (map_take_snoc hr (·.name))
      have HPS := Lib.hid hps; have HSZ := Lib.hid hsz; have L2 := Lib.hid l2
      have HER := Lib.hid hEr
      have hkc : k ≤ cap := by omega
      clear hr hEr hps hsz
      unfold maxLen at l2
      go_upto_region 5 with (fail)
      obtain ⟨W0, hW0⟩ : ∃ W0, wr.alloc (Obj.cells #[.string r.name, .bool r.allow, .slice pa r.pats.length pc, .int .u64 r.keyMin, .int .i64 r.lifeMax, .int .i64 r.most, .int .i64 r.window] 40) = W0 := ⟨_, rfl⟩
      have hE0 : Ext wr W0 := by rw [← hW0]; exact ext_alloc (Below.refl _ _) _
      have c0 : W0.cell? ⟨wr.heap.size, 0, none⟩ = some (.string r.name) := by rw [← hW0]; simp [go_sem]
      have c1 : W0.cell? ⟨wr.heap.size, 1, none⟩ = some (.bool r.allow) := by rw [← hW0]; simp [go_sem]
      have c2 : W0.cell? ⟨wr.heap.size, 2, none⟩ = some (.slice pa r.pats.length pc) := by rw [← hW0]; simp [go_sem]
      have c3 : W0.cell? ⟨wr.heap.size, 3, none⟩ = some (.int .u64 r.keyMin) := by rw [← hW0]; simp [go_sem]
      have c4 : W0.cell? ⟨wr.heap.size, 4, none⟩ = some (.int .i64 r.lifeMax) := by rw [← hW0]; simp [go_sem]
      have c5 : W0.cell? ⟨wr.heap.size, 5, none⟩ = some (.int .i64 r.most) := by rw [← hW0]; simp [go_sem]
      have c6 : W0.cell? ⟨wr.heap.size, 6, none⟩ = some (.int .i64 r.window) := by rw [← hW0]; simp [go_sem]
      rw [hW0]
      have HE0 := Lib.hid hE0
      clear hW0 hE0 d0 d1 d2 d3 d4 d5 d6
      refine wp_region_P (fun w' => Ext W0 w') (Below.refl _ _) ?_
      repeat
        first
        | (refine steps_and rfl rfl rfl rfl ?_; simp only [Act.put, List.setIfInBounds_toArray, List.set_cons_succ, List.set_cons_zero])
        | (refine steps_or rfl rfl rfl rfl ?_; simp only [Act.put, List.setIfInBounds_toArray, List.set_cons_succ, List.set_cons_zero])
        | (refine steps_skip rfl ?_; simp only [Act.put, List.setIfInBounds_toArray, List.set_cons_succ, List.set_cons_zero])
        | (refine steps_guard_and rfl rfl rfl rfl rfl ?_; simp only [Act.put, List.setIfInBounds_toArray, List.set_cons_succ, List.set_cons_zero])
        | (refine steps_guard (v := ?_) rfl rfl (fun hb w' hS => ?_) ?_; rotate_left; (focus (have e0 := ext_cell c0 hS; have e1 := ext_cell c1 hS; have e2 := ext_cell c2 hS; have e3 := ext_cell c3 hS; have e4 := ext_cell c4 hS; have e5 := ext_cell c5 hS; have e6 := ext_cell c6 hS; have elk := ((HM.out.ext (ext_trans HE0.out hS)).run_lookup (mt := 41) E Tryz.underlying41 (z := .bool false) (by kernel_rfl) (k := r.name) HSZ.out).trans (congrArg (fun v => Result.ok v w') (HS.out r.name)); unfold Gives; go_simp; first | exact is_mk hS | (refine (formed_any r pa pc _ l1 L2.out (HPS.out.ext (ext_trans HE0.out hS)) HSZ.out).mono ?_; rintro e w'' ⟨rfl, h2⟩; exact gave_mk (ext_trans hS h2)))); simp only [Act.put, List.setIfInBounds_toArray, List.set_cons_succ, List.set_cons_zero])
        | (refine steps_guard2 (v := ?_) rfl rfl rfl (fun hb1 hb w' hS => ?_) ?_; rotate_left; (focus (have e0 := ext_cell c0 hS; have e1 := ext_cell c1 hS; have e2 := ext_cell c2 hS; have e3 := ext_cell c3 hS; have e4 := ext_cell c4 hS; have e5 := ext_cell c5 hS; have e6 := ext_cell c6 hS; have elk := ((HM.out.ext (ext_trans HE0.out hS)).run_lookup (mt := 41) E Tryz.underlying41 (z := .bool false) (by kernel_rfl) (k := r.name) HSZ.out).trans (congrArg (fun v => Result.ok v w') (HS.out r.name)); unfold Gives; go_simp; first | exact is_mk hS | (refine (formed_any r pa pc _ l1 L2.out (HPS.out.ext (ext_trans HE0.out hS)) HSZ.out).mono ?_; rintro e w'' ⟨rfl, h2⟩; exact gave_mk (ext_trans hS h2)))); simp only [Act.put, List.setIfInBounds_toArray, List.set_cons_succ, List.set_cons_zero])
        | (refine steps_run (v := ?_) rfl (fun w' hS => ?_) ?_; rotate_left; (focus (have e0 := ext_cell c0 hS; have e1 := ext_cell c1 hS; have e2 := ext_cell c2 hS; have e3 := ext_cell c3 hS; have e4 := ext_cell c4 hS; have e5 := ext_cell c5 hS; have e6 := ext_cell c6 hS; have elk := ((HM.out.ext (ext_trans HE0.out hS)).run_lookup (mt := 41) E Tryz.underlying41 (z := .bool false) (by kernel_rfl) (k := r.name) HSZ.out).trans (congrArg (fun v => Result.ok v w') (HS.out r.name)); unfold Gives; go_simp; first | exact is_mk hS | (refine (formed_any r pa pc _ l1 L2.out (HPS.out.ext (ext_trans HE0.out hS)) HSZ.out).mono ?_; rintro e w'' ⟨rfl, h2⟩; exact gave_mk (ext_trans hS h2)))); simp only [Act.put, List.setIfInBounds_toArray, List.set_cons_succ, List.set_cons_zero])
      refine steps_end fun w' hE' => ?_
      rw [← List.map_take]
      cases hq : (!formB r || memB ((l.take k).map (·.name)) r.name)
      · have HQ := Lib.hid (show rulesOk [] (l.take (k + 1)) = true by
          rw [HT.out, HP.out]
          simp only [Bool.or_eq_false_iff, Bool.not_eq_false'] at hq
          rw [hq.1, hq.2]; rfl)
        clear hq
        have HE' := Lib.hid hE'
        have e0 := ext_cell c0 hE'
        clear c0 c1 c2 c3 c4 c5 c6
        have HM' := Lib.hid (HM.out.ext (ext_trans HE0.out hE'))
        clear hE'
        go_wp2_with (at_mapUpdate; refine wpList_mapUpdate_is rfl _ _ _ 41 rfl E Tryz.underlying41 rfl HM'.out r.name _ rfl rfl HSZ.out ?_; intro w1 hm' hf1 hz1; have QM := Lib.hid hm'; have QF := Lib.hid hf1; clear hm' hf1 hz1)
        go_roundw
        case rel => exact ⟨k + 1, _, by omega, by go_num, HQ.out, (ext_trans HER.out (ext_trans HE0.out HE'.out)).trans (QF.out.below (ext_trans HER.out (ext_trans HE0.out HE'.out)).size (fun k hk => by omega)), QM.out, by rw [HMT.out]; exact HS.out.put r.name⟩
        case measure => simp [intOf]; omega
      · have HQ := Lib.hid (show checkE l = 1 by
          have : rulesOk [] (l.take (k + 1)) = false := by
            rw [HT.out, HP.out]
            simp only [Bool.or_eq_true, Bool.not_eq_true'] at hq
            rcases hq with h | h <;> rw [h] <;> simp
          unfold checkE; rw [rulesOk_false this]; rfl)
        clear hq
        go_wp2_with fail
        all_goals
          go_ret
          exact ⟨ret_int HQ.out.symm, ext_trans HER.out (ext_trans HE0.out hE')⟩
    · obtain rfl : k = n := by omega
      have hpo : rulesOk [] l = true := by have := HP.out; rwa [← HN.out, List.take_length] at this
      have HFB := Lib.hid (show checkE l = if k ≤ 32 then 0 else 2 by unfold checkE; rw [hpo, HN.out]; rfl)
      by_cases h32 : k ≤ 32
      · have t : decide ((32 : Int) < k) = false := by simp; omega
        go_wp2_with fail
        go_ret
        exact ⟨ret_int (by rw [HFB.out, if_pos h32]), hEr⟩
      · have t : decide ((32 : Int) < k) = true := by simp; omega
        go_wp2_with fail
        go_ret
        exact ⟨ret_int (by rw [HFB.out, if_neg h32]), hEr⟩
end Go.Proofs.YteemkkmkkgfofaaGreatDoor
namespace Go.Proofs.YteemkkmkkgfofaaGreatDoor
open Go.RowKit

/-- 'b2 || d', guarded. -/
theorem steps_guard_or {P : Program} {ops : Array Oper} {S : World → Prop} {o : Oper} {os : List Oper} {a : Act} {g : Nat} {pol b b2 d : Bool} {c x : Operand} {F : Act → Prop} (hg : o.guard = some (g, pol)) (ho : o.op = .pick c (.const (.bool true)) x) (hy : yielded ops a.tmps g = some b)
    (hc : a.eval c = gv b pol (.bool b2)) (hx : a.eval x = gv b pol (gv b2 false (.bool d))) (hs : Steps P ops S os (a.put o.dst (gv b pol (.bool (b2 || d)))) F) : Steps P ops S (o :: os) a F :=
  steps_guard hg hy (fun e w hS => by
    unfold Gives execOp
    simp only [ho, hc, hx, gv_of e]
    cases b2 <;> exact ⟨rfl, hS⟩) hs
end Go.Proofs.YteemkkmkkgfofaaGreatDoor
namespace Go.Proofs.YteemkkmkkgfofaaGreatDoor
open Go.RowKit Nam Pol Go.Maps
attribute [local go_sem] gv_of

/-- A byte in one cell. -/
def U8At : ElR UInt8 := fun w b o c => w.cell? ⟨b, o, none⟩ = some (.int .u8 (c.toNat : Int))
instance : Firm U8At where
  ext := fun h hE => ext_cell h hE
abbrev Byts (w : World) (a : Option Addr) (l : List UInt8) : Prop := SlA 1 U8At w a l
/-- The reader in block rb: the bytes' slice, where it stands, the token at hand. -/
def RdB (w : World) (rb : Nat) (ba : Option Addr) (n bc i : Nat) (t : ByteArray) : Prop := w.heap[rb]? = some (.cells #[.slice ba n bc, .int .i64 i, .string t] 65 (0, 0))
theorem RdB.cells {w : World} {rb : Nat} {ba : Option Addr} {n bc i : Nat} {t : ByteArray} (h : RdB w rb ba n bc i t) :
    w.cell? ⟨rb, 0, none⟩ = some (.slice ba n bc) ∧ w.cell? ⟨rb, 1, none⟩ = some (.int .i64 i) ∧ w.cell? ⟨rb, 2, none⟩ = some (.string t) := by
  unfold RdB at h
  simp [World.cell?, h]
theorem RdB.frozen {w : World} {rb : Nat} {ba : Option Addr} {n bc i : Nat} {t : ByteArray} (h : RdB w rb ba n bc i t) (j : Nat) : w.frozen? ⟨rb, j, none⟩ = false := frozen_of_row w rb j _ _ h
theorem RdB.lt {w : World} {rb : Nat} {ba : Option Addr} {n bc i : Nat} {t : ByteArray} (h : RdB w rb ba n bc i t) : rb < w.heap.size := (Array.getElem?_eq_some_iff.1 h).1
theorem RdB.set1 {w : World} {rb : Nat} {ba : Option Addr} {n bc i : Nat} {t : ByteArray} (h : RdB w rb ba n bc i t) (k : Nat) : RdB (w.setCell ⟨rb, 1, none⟩ (.int .i64 k)) rb ba n bc k t := (heap_setCell_same w rb 1 _ _ _ h).trans (by simp)
theorem RdB.set2 {w : World} {rb : Nat} {ba : Option Addr} {n bc i : Nat} {t : ByteArray} (h : RdB w rb ba n bc i t) (s : ByteArray) : RdB (w.setCell ⟨rb, 2, none⟩ (.string s)) rb ba n bc i s := (heap_setCell_same w rb 2 _ _ _ h).trans (by simp)
theorem RdB.ext {w w' : World} {rb : Nat} {ba : Option Addr} {n bc i : Nat} {t : ByteArray} (h : RdB w rb ba n bc i t) (hE : Ext w w') : RdB w' rb ba n bc i t := (hE.block rb h.lt).trans h
/-- What a stop says. -/
def stopE (p : Nat) (c : Int) : Ending := .panicked [{ v := .iface 62 (.agg #[.int .i64 p, .int .i64 c]), recovered := false }]
theorem wrong_any (rb : Nat) (ba : Option Addr) (n bc i : Nat) (t : ByteArray) (w : World) (h : RdB w rb ba n bc i t) :
    Calls Tryz.prog 52 #[.pointer (some ⟨rb, 0, none⟩)] w (fun e w' => e = stopE i 71 ∧ w' = w) := by
  obtain ⟨c0, c1, c2⟩ := h.cells
  clear h
  go_enter Tryz.func52, Tryz.ntmps52
  go_wp2_with fail
  exact ⟨rfl, rfl, rfl⟩
end Go.Proofs.YteemkkmkkgfofaaGreatDoor
