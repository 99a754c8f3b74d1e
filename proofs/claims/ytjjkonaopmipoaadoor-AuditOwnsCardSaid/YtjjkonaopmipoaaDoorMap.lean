/- Maps that a call makes: lists of keys and values, in the order in which the keys came; lookups, stores, the length. -/
import Derived.Test.YtjjkonaopmipoaaDoorBase
import Derived.Maps.OwnIn
namespace Go.Proofs.YtjjkonaopmipoaaDoor
open Go.RowKit Go.Maps
open Go.ChangeMaps (setBlock heap_setBlock_same heap_setBlock_other)

/-- How keys of a plain type stand as values: read as keys, apart where they are. -/
structure KEnc {K : Type} (P : Program) (kt : TypeId) (enc : K → Value) (Ok : K → Prop) : Prop where
  keyed : Keyed P kt
  key : ∀ k, Ok k → ∃ l, keyOf P kt (enc k) = some l
  inj : ∀ a b, enc a = enc b → a = b
section
variable {K : Type} [DecidableEq K]
/-- What stands at a key. -/
def look : List (K × Value) → K → Option Value
  | [], _ => none
  | p :: m, k => if p.1 = k then some p.2 else look m k
/-- The list behind a store. -/
def mput : List (K × Value) → K → Value → List (K × Value)
  | [], k, v => [(k, v)]
  | p :: m, k, v => if p.1 = k then (k, v) :: m else p :: mput m k v
theorem look_none {m : List (K × Value)} {k : K} : look m k = none ↔ ∀ p ∈ m, p.1 ≠ k := by
  induction m with
  | nil => simp [look]
  | cons p m ih =>
    unfold look
    split
    · rename_i h; simp [h]
    · rename_i h; rw [ih]; simp [h]
theorem look_at {m : List (K × Value)} (hnd : m.Pairwise fun p q => p.1 ≠ q.1) : ∀ {j : Nat} {p : K × Value}, m[j]? = some p → look m p.1 = some p.2 := by
  induction m with
  | nil => intro j p h; simp at h
  | cons q m ih =>
    obtain ⟨h1, h2⟩ := List.pairwise_cons.1 hnd
    intro j p h
    cases j with
    | zero => simp at h; subst h; simp [look]
    | succ j =>
      have hm : m[j]? = some p := by simpa using h
      have hne := h1 p (List.mem_of_getElem? hm)
      simp [look, hne, ih h2 hm]
theorem look_mput (m : List (K × Value)) (k : K) (v : Value) (k' : K) : look (mput m k v) k' = if k = k' then some v else look m k' := by
  induction m with
  | nil => simp [mput, look]
  | cons p m ih =>
    unfold mput
    by_cases h : p.1 = k
    · rw [if_pos h]; subst h
      by_cases h2 : p.1 = k' <;> simp [look, h2]
    · rw [if_neg h]
      by_cases h2 : p.1 = k'
      · have : ¬ k = k' := fun e => h (h2.trans e.symm)
        simp [look, h2, this]
      · simp [look, h2, ih]
theorem mput_new {m : List (K × Value)} {k : K} (h : look m k = none) (v : Value) : mput m k v = m ++ [(k, v)] := by
  induction m with
  | nil => rfl
  | cons p m ih =>
    unfold look at h
    split at h
    · cases h
    · rename_i hp
      unfold mput; rw [if_neg hp, ih h]; rfl
theorem mput_at {m : List (K × Value)} (hnd : m.Pairwise fun p q => p.1 ≠ q.1) : ∀ {j : Nat} {p : K × Value} (v : Value), m[j]? = some p → mput m p.1 v = m.set j (p.1, v) := by
  induction m with
  | nil => intro j p v h; simp at h
  | cons q m ih =>
    obtain ⟨h1, h2⟩ := List.pairwise_cons.1 hnd
    intro j p v h
    cases j with
    | zero => simp at h; subst h; simp [mput]
    | succ j =>
      have hm : m[j]? = some p := by simpa using h
      have hne := h1 p (List.mem_of_getElem? hm)
      unfold mput
      rw [if_neg hne, ih h2 v hm]; rfl
theorem mput_keys (m : List (K × Value)) (k : K) (v : Value) : ∀ q ∈ mput m k v, q.1 = k ∨ q ∈ m := by
  induction m with
  | nil => intro q h; simp [mput] at h; simp [h]
  | cons p m ih =>
    intro q h
    unfold mput at h
    split at h
    · rcases List.mem_cons.1 h with rfl | h
      · simp
      · right; simp [h]
    · rcases List.mem_cons.1 h with rfl | h
      · right; simp
      · rcases ih q h with h | h
        · exact .inl h
        · right; simp [h]
theorem mput_nodup {m : List (K × Value)} (hnd : m.Pairwise fun p q => p.1 ≠ q.1) (k : K) (v : Value) : (mput m k v).Pairwise fun p q => p.1 ≠ q.1 := by
  induction m with
  | nil => simp [mput]
  | cons p m ih =>
    obtain ⟨h1, h2⟩ := List.pairwise_cons.1 hnd
    unfold mput
    split
    · rename_i h; subst h; exact List.pairwise_cons.2 ⟨h1, h2⟩
    · rename_i h
      refine List.pairwise_cons.2 ⟨fun q hq => ?_, ih h2⟩
      rcases mput_keys m k v q hq with e | hq
      · rw [e]; exact h
      · exact h1 q hq
theorem mput_length (m : List (K × Value)) (k : K) (v : Value) : (mput m k v).length = if (look m k).isSome then m.length else m.length + 1 := by
  induction m with
  | nil => simp [mput, look]
  | cons p m ih =>
    unfold mput look
    by_cases h : p.1 = k
    · simp [h]
    · simp only [h, if_false, List.length_cons, ih]
      split <;> rfl
/-- Block b is a map that holds m. -/
structure MapIs (P : Program) (kt : TypeId) (enc : K → Value) (Ok : K → Prop) (w : World) (b : Nat) (m : List (K × Value)) : Prop where
  heap : ∃ es clock, w.heap[b]? = some (.map es clock) ∧ es.toList.map (fun e => (e.key, e.val)) = m.map (fun p => (enc p.1, p.2))
  ok : ∀ p ∈ m, Ok p.1
  apart : m.Pairwise fun p q => p.1 ≠ q.1
variable {P : Program} {kt et mt : TypeId} {enc : K → Value} {Ok : K → Prop} {w : World} {b : Nat} {m : List (K × Value)}
omit [DecidableEq K] in
theorem MapIs.made (P : Program) (kt : TypeId) (enc : K → Value) (Ok : K → Prop) (w : World) : MapIs P kt enc Ok (w.alloc (.map #[] 0)) w.heap.size [] :=
  ⟨⟨#[], 0, by have := World.alloc_heap_new w (.map #[] 0); exact this, rfl⟩, by simp, List.Pairwise.nil⟩
omit [DecidableEq K] in
theorem MapIs.lt (h : MapIs P kt enc Ok w b m) : b < w.heap.size := by
  obtain ⟨es, clock, hb, _⟩ := h.heap
  exact (Array.getElem?_eq_some_iff.1 hb).1
omit [DecidableEq K] in
theorem MapIs.of_block {w' : World} (h : MapIs P kt enc Ok w b m) (hb : w'.heap[b]? = w.heap[b]?) : MapIs P kt enc Ok w' b m := by
  obtain ⟨es, clock, h1, h2⟩ := h.heap
  exact ⟨⟨es, clock, hb.trans h1, h2⟩, h.ok, h.apart⟩
omit [DecidableEq K] in
theorem MapIs.fr {S : Nat → Prop} {w' : World} (h : MapIs P kt enc Ok w b m) (hf : Fr S w w') (hs : ¬ S b) : MapIs P kt enc Ok w' b m := h.of_block (hf.block b h.lt hs)
omit [DecidableEq K] in
theorem MapIs.ext {w' : World} (h : MapIs P kt enc Ok w b m) (hE : Ext w w') : MapIs P kt enc Ok w' b m := h.of_block (hE.block b h.lt)
theorem MapIs.find (h : MapIs P kt enc Ok w b m) (E : KEnc P kt enc Ok) {k : K} (hk : Ok k) : ∃ es clock, w.heap[b]? = some (.map es clock) ∧ es.toList.map (fun e => (e.key, e.val)) = m.map (fun p => (enc p.1, p.2)) ∧
    ((look m k = none ∧ (Instr.findKey kt (enc k) es.toList).run P w = .ok none w) ∨
      ∃ j e v, look m k = some v ∧ e.val = v ∧ e.key = enc k ∧ es.toList[j]? = some e ∧ m[j]? = some (k, v) ∧ (Instr.findKey kt (enc k) es.toList).run P w = .ok (some (j, v)) w) := by
  obtain ⟨es, clock, hb, hes⟩ := h.heap
  refine ⟨es, clock, hb, hes, ?_⟩
  obtain ⟨l, hl⟩ := E.key k hk
  have back : ∀ (j : Nat) (e : MapEntry), es.toList[j]? = some e → ∃ p, m[j]? = some p ∧ e.key = enc p.1 ∧ e.val = p.2 := fun j e he => by
    have := congrArg (fun l => l[j]?) hes
    simp only [List.getElem?_map, he, Option.map_some] at this
    cases hm : m[j]? with
    | none => rw [hm] at this; simp at this
    | some p => rw [hm] at this; simp at this; exact ⟨p, rfl, this.1, this.2⟩
  have hks : ∀ e ∈ es.toList, ∃ l, keyOf P kt e.key = some l := fun e he => by
    obtain ⟨j, hj, rfl⟩ := List.getElem_of_mem he
    obtain ⟨p, hp, h1, _⟩ := back j _ (List.getElem?_eq_getElem hj)
    rw [h1]; exact E.key _ (h.ok p (List.mem_of_getElem? hp))
  rcases E.keyed.find w hl es.toList hks with ⟨h1, h2⟩ | ⟨j, e, h1, h2, h3⟩
  · refine .inl ⟨look_none.2 (fun p hp hpk => ?_), h1⟩
    obtain ⟨j, hj, rfl⟩ := List.getElem_of_mem hp
    have := congrArg (fun l => l[j]?) hes
    simp only [List.getElem?_map, List.getElem?_eq_getElem hj, Option.map_some] at this
    cases he : es.toList[j]? with
    | none => rw [he] at this; simp at this
    | some e =>
      rw [he] at this; simp at this
      exact h2 e (List.mem_of_getElem? he) (by rw [this.1, hpk])
  · obtain ⟨p, hp, h4, h5⟩ := back j e h2
    have hpk : p.1 = k := E.inj _ _ (by rw [← h4, h3])
    subst hpk
    exact .inr ⟨j, e, p.2, look_at h.apart hp, h5, h3, h2, hp, by rw [h1, h5]⟩
/-- 'm[k]'. -/
theorem MapIs.run_lookup (h : MapIs P kt enc Ok w b m) (E : KEnc P kt enc Ok) (ht : P.underlying mt = some (.map kt et)) {z : Value} (hz : (zeroValue et).run P w = .ok z w) {k : K} (hk : Ok k) :
    (Instr.lookup mt (.map (some b)) (enc k) false).run P w = .ok ((look m k).getD z) w := by
  obtain ⟨es, clock, hb, hes, hf⟩ := h.find E hk
  obtain ⟨l, hl⟩ := E.key k hk
  rcases hf with ⟨h1, h2⟩ | ⟨j, e, v, h1, _, _, _, _, h2⟩
  · simp [Instr.lookup, run_underlying ht, MapKept.run_getObj_map hb, E.keyed.check w _ hl, h2, h1, hz, Result.andThen]
  · simp [Instr.lookup, run_underlying ht, MapKept.run_getObj_map hb, E.keyed.check w _ hl, h2, h1, Result.andThen]
/-- 'v, ok := m[k]'. -/
theorem MapIs.run_lookup_ok (h : MapIs P kt enc Ok w b m) (E : KEnc P kt enc Ok) (ht : P.underlying mt = some (.map kt et)) {z : Value} (hz : (zeroValue et).run P w = .ok z w) {k : K} (hk : Ok k) :
    (Instr.lookup mt (.map (some b)) (enc k) true).run P w = .ok (.tuple #[(look m k).getD z, .bool (look m k).isSome]) w := by
  obtain ⟨es, clock, hb, hes, hf⟩ := h.find E hk
  obtain ⟨l, hl⟩ := E.key k hk
  rcases hf with ⟨h1, h2⟩ | ⟨j, e, v, h1, _, _, _, _, h2⟩
  · simp [Instr.lookup, run_underlying ht, MapKept.run_getObj_map hb, E.keyed.check w _ hl, h2, h1, hz, Result.andThen]
  · simp [Instr.lookup, run_underlying ht, MapKept.run_getObj_map hb, E.keyed.check w _ hl, h2, h1, Result.andThen]
theorem fr_setBlock {w : World} {b : Nat} {es : Array MapEntry} {clock : Nat} (hb : w.heap[b]? = some (.map es clock)) (o : Obj) : Fr (fun k => k = b) w (setBlock w b o) :=
  ⟨rfl, rfl, rfl, by simp [setBlock], fun i _ hi => heap_setBlock_other hb _ hi⟩
/-- 'm[k] = v'. -/
theorem MapIs.run_update (h : MapIs P kt enc Ok w b m) (E : KEnc P kt enc Ok) (ht : P.underlying mt = some (.map kt et)) {k : K} (hk : Ok k) (v : Value) :
    ∃ w', (Instr.mapUpdate mt (.map (some b)) (enc k) v).run P w = .ok () w' ∧ MapIs P kt enc Ok w' b (mput m k v) ∧ Fr (fun k => k = b) w w' ∧ w'.heap.size = w.heap.size := by
  obtain ⟨es, clock, hb, hes, hf⟩ := h.find E hk
  obtain ⟨l, hl⟩ := E.key k hk
  have hok : ∀ p ∈ mput m k v, Ok p.1 := fun p hp => by
    rcases mput_keys m k v p hp with e | hp
    · rw [e]; exact hk
    · exact h.ok p hp
  rcases hf with ⟨h1, h2⟩ | ⟨j, e, u, h1, h3, h4, h5, h6, h2⟩
  · refine ⟨setBlock w b (.map (es.push ⟨enc k, v, clock⟩) (clock + 1)), ?_, ⟨⟨_, _, heap_setBlock_same hb _, ?_⟩, hok, mput_nodup h.apart k v⟩, fr_setBlock hb _, by simp [setBlock]⟩
    · simp [Instr.mapUpdate, run_underlying ht, MapKept.run_getObj_map hb, E.keyed.check w false hl, h2, MapKept.run_setObj_map _ hb, Result.andThen, setBlock]
    · rw [mput_new h1]
      simp [hes]
  · have hj : es[j]? = some e := by simpa using h5
    refine ⟨setBlock w b (.map (es.modify j (fun e' => { e' with key := enc k, val := v })) clock), ?_, ⟨⟨_, _, heap_setBlock_same hb _, ?_⟩, hok, mput_nodup h.apart k v⟩, fr_setBlock hb _, by simp [setBlock]⟩
    · simp [Instr.mapUpdate, run_underlying ht, MapKept.run_getObj_map hb, E.keyed.check w false hl, h2, hj, h4, E.keyed.stays w hl, MapKept.run_setObj_map _ hb, Result.andThen, setBlock]
    · rw [mput_at h.apart (p := (k, u)) v h6, Array.toList_modify, ChangeMaps.modify_eq_set _ _ _ _ h5, List.map_set, List.map_set, hes]
omit [DecidableEq K] in
/-- 'len(m)'. -/
theorem MapIs.run_len (h : MapIs P kt enc Ok w b m) (ht : P.underlying mt = some (.map kt et)) (ty : TypeId) : (Builtin.len_ #[mt] ty #[.map (some b)]).run P w = .ok (.int .i64 m.length) w := by
  obtain ⟨es, clock, hb, hes⟩ := h.heap
  have hl : es.size = m.length := by have := congrArg List.length hes; simpa using this
  simp [Builtin.len_, run_underlying ht, MapKept.run_getObj_map hb, Result.andThen, hl, goInt]
variable {ops : Array Oper} {rest : List Oper} {o : Oper} {a : Act} {Q : Exit → Act → World → Prop}
theorem wpList_mapUpdate_is (hg : o.guard = none) (mo x v : Operand) (t : TypeId) (hop : o.op = Op.mapUpdate t mo x v) (E : KEnc P kt enc Ok) (ht : P.underlying t = some (.map kt et))
    (hm : a.eval mo = .map (some b)) (h : MapIs P kt enc Ok w b m) (k : K) (val : Value) (hx : a.eval x = enc k) (hv : a.eval v = val) (hk : Ok k)
    (hK : ∀ w', MapIs P kt enc Ok w' b (mput m k val) → Fr (fun k => k = b) w w' → w'.heap.size = w.heap.size → wpList P ops Q rest (a.put o.dst undef) w') :
    wpList P ops Q (o :: rest) a w := by
  refine wpList_plain hg fun K' hK' => ?_
  obtain ⟨w', hrun, r1, r2, r3⟩ := h.run_update E ht hk val
  unfold Oper.wp
  simp [execOp, hop, hm, hx, hv, hrun, Result.andThen]
  exact hK' _ _ (hK w' r1 r2 r3)
omit [DecidableEq K] in
theorem wpList_len_is (hg : o.guard = none) (mo : Operand) (t : TypeId) (hop : o.op = Op.call { callee := Callee.builtin Builtin.len, args := #[mo], argTypes := #[t] }) (ht : P.underlying t = some (.map kt et))
    (hm : a.eval mo = .map (some b)) (h : MapIs P kt enc Ok w b m) (hK : wpList P ops Q rest (a.put o.dst (.int .i64 m.length)) w) :
    wpList P ops Q (o :: rest) a w := by
  refine wpList_plain hg fun K' hK' => ?_
  unfold Oper.wp
  simp [execOp, hop, resolve, invoke, builtin, hm, h.run_len ht o.type, Result.andThen]
  exact hK' _ _ hK
end
/-- Strings as keys. -/
theorem strKEnc {P : Program} {kt : TypeId} (hk : P.underlying kt = some .string) : KEnc P kt Value.string (fun s : ByteArray => s.size ≤ maxLen) where
  keyed := string_keyed hk
  key := fun s hs => ⟨.string s.data.toList, by simp [keyOf, hk, mapKey, hs]⟩
  inj := fun a b h => by cases h; rfl
/-- Integers as keys. -/
theorem intKEnc {P : Program} {kt : TypeId} {q : IntKind} (hk : P.underlying kt = some (.int q)) : KEnc P kt (Value.int q) (fun n : Int => (Lit.int q n).wf = true) where
  keyed := int_keyed hk
  key := fun n hn => ⟨_, keyOf_int_mk hk hn⟩
  inj := fun a b h => by cases h; rfl
end Go.Proofs.YtjjkonaopmipoaaDoor
