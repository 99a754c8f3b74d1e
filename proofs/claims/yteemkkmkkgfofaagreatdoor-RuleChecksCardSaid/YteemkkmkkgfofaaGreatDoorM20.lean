/- Walks: rule.Parse. -/
import Derived.Test.YteemkkmkkgfofaaGreatDoorM17
import Derived.Test.YteemkkmkkgfofaaGreatDoorM19
namespace Go.Proofs.YteemkkmkkgfofaaGreatDoor
open Go.RowKit Nam Pol Go.Maps
attribute [local go_sem] gv_of

/-- What Parse leaves. -/
def ParseR (n : Nat) (T : List Tok) (w : World) (e : Ending) (w' : World) : Prop := ∃ (v : Value) (p c : Int), e = .returned (.tuple #[v, .int .i64 p, .int .i64 c]) ∧ Ext w w' ∧
  (if 32768 < n then v = .slice none 0 0 ∧ p = 0 ∧ c = 2 else match readT T with
    | .ok l => p = 0 ∧ c = 0 ∧ ∃ la lc, v = .slice la l.length lc ∧ l.length ≤ lc ∧ lc ≤ maxLen ∧ Ruls w' la l
    | .error x => v = .slice none 0 0 ∧ p = x.1 ∧ c = x.2)
theorem info7R : (Tryz.prog.info? 40).map (fun i => (i.zero, i.size, i.bytes)) = some (some (.agg #[.string ⟨#[]⟩, .bool false, .slice none 0 0, .int .u64 0, .int .i64 0, .int .i64 0, .int .i64 0]), 7, 80) := by kernel_rfl
/-- What stands in memory while rules are read. -/
structure PS (w0 wr : World) (B : Nat) (ba : Option Addr) (n bc : Nat) (s : Str) (v : Value) (acc : List Rul) (T : List Tok) : Prop where
  lb : Boxed wr B 22 v
  ab : Boxed wr (B + 1) 3 (.int .i64 0)
  eb : Boxed wr (B + 2) 25 (.int .i64 0)
  own : OwnR (B + 4) wr v acc
  rd : RdS wr (B + 3) ba n bc s T
  ext : Ext w0 wr
  bl : ∀ p, ba = some p → s ≠ [] → p.block < B
  base : w0.heap.size = B
section
variable {w0 wr w' : World} {B : Nat} {ba : Option Addr} {n bc : Nat} {s : Str} {v : Value} {acc : List Rul} {T T' : List Tok}
theorem PS.call (h : PS w0 wr B ba n bc s v acc T) (hF : Fr (· = B + 3) wr w') (hR : RdS w' (B + 3) ba n bc s T') : PS w0 w' B ba n bc s v acc T' := by
  have hb := h.base
  exact ⟨hF.boxed h.lb (fun e => by have e' : B = B + 3 := e; omega), hF.boxed h.ab (fun e => by have e' : B + 1 = B + 3 := e; omega), hF.boxed h.eb (fun e => by have e' : B + 2 = B + 3 := e; omega), h.own.fr hF (fun b e => by have e' : b = B + 3 := e; omega), hR, ((Fr.of_ext (S := fun _ => False) h.ext).onto hF (fun i hi e => by have e' : i = B + 3 := e; omega)).ext (fun _ _ h => h), h.bl, hb⟩
/-- Behind append, and the store of what it gives. -/
theorem PS.app {r : Rul} {pa : Option Addr} {pc g cap : Nat} {css : List (List Value)} {o : Obj} (h : PS w0 wr B ba n bc s v acc T) (h1 : css.length = acc.length) (h2 : ∀ (i : Nat) (cs : List Value) (x : Rul), css[i]? = some cs → acc[i]? = some x → cs.length = 7 ∧ RulC (B + 4) wr cs x) (h3 : wr.ownsRow (B + 4) 40 7 v acc.length css.flatten)
    (hr : RulC (B + 4) wr [.string r.name, .bool r.allow, .slice pa r.pats.length pc, .int .u64 r.keyMin, .int .i64 r.lifeMax, .int .i64 r.most, .int .i64 r.window] r)
    (hown : w'.ownsRow (B + 4) 40 7 (.slice (some ⟨g, 0, none⟩) (acc.length + 1) cap) (acc.length + 1) (css.flatten ++ [.string r.name, .bool r.allow, .slice pa r.pats.length pc, .int .u64 r.keyMin, .int .i64 r.lifeMax, .int .i64 r.most, .int .i64 r.window])) (hg : (wr.alloc o).grownBy w' v.ownBlock) :
    PS w0 (w'.setCell ⟨B, 0, none⟩ (.slice (some ⟨g, 0, none⟩) (acc.length + 1) cap)) B ba n bc s (.slice (some ⟨g, 0, none⟩) (acc ++ [r]).length cap) (acc ++ [r]) T := by
  have hb := h.base; have hsz := h.ext.size
  have hge := h.own.ge
  have hF : Fr (fun b => v.ownBlock = some b) wr w' := (Fr.of_ext (ext_alloc (Below.refl _ wr) o)).trans (Fr.grown hg)
  have hFx : Fr (fun b => b = B) w' (w'.setCell ⟨B, 0, none⟩ (.slice (some ⟨g, 0, none⟩) (acc.length + 1) cap)) := Fr.setCell (S := fun b => b = B) _ ⟨B, 0, none⟩ _ rfl
  have hl : (acc ++ [r]).length = acc.length + 1 := by simp
  refine ⟨by rw [hl]; exact Boxed.set _ (hF.boxed h.lb (fun e => by have := (hge B e).1; omega)), hFx.boxed (hF.boxed h.ab (fun e => by have := (hge _ e).1; omega)) (fun e => by have e' : B + 1 = B := e; omega), hFx.boxed (hF.boxed h.eb (fun e => by have := (hge _ e).1; omega)) (fun e => by have e' : B + 2 = B := e; omega), ?_, ?_, ?_, h.bl, hb⟩
  · rw [hl]
    have := OwnR.snoc h1 h2 h3 hr rfl hown hg
    rw [hl] at this
    exact this.fr hFx (fun b e => by have e' : b = B := e; omega)
  · exact (h.rd.fr hF (fun e => by have := (hge _ e).1; omega) (fun p hp hs e => by have := (hge _ e).1; have := h.bl p hp hs; omega)).fr hFx (fun e => by have e' : B + 3 = B := e; omega) (fun p hp hs e => by have e' : p.block = B := e; have := h.bl p hp hs; omega)
  · exact (((Fr.of_ext (S := fun _ => False) h.ext).onto hF (fun i hi e => by have := (hge _ e).1; omega)).onto hFx (fun i hi e => by have e' : i = B := e; omega)).ext (fun _ _ h => h)
theorem PS.appx {o : Obj} (h : PS w0 wr B ba n bc s v acc T) (hg : (wr.alloc o).grownBy w' v.ownBlock) : Boxed w' B 22 v := by
  have hF : Fr (fun b => v.ownBlock = some b) wr w' := (Fr.of_ext (ext_alloc (Below.refl _ wr) o)).trans (Fr.grown hg)
  exact hF.boxed h.lb (fun e => by have := (h.own.ge B e).1; omega)
theorem PS.ext_fr (h : PS w0 wr B ba n bc s v acc T) (hF : Fr (· = B + 3) wr w') : Ext w0 w' := by
  have hb := h.base
  exact ((Fr.of_ext (S := fun _ => False) h.ext).onto hF (fun i hi e => by have e' : i = B + 3 := e; omega)).ext (fun _ _ h => h)
theorem seven_new (w : World) (t : TypeId) (vs : List Value) : ∀ (j : Nat) (u : Value), vs[j]? = some u → (w.alloc (.cells vs.toArray t)).cell? ((⟨w.heap.size, 0, none⟩ : Addr).add j) = some u := fun j u h => by
  rw [addr_add]
  unfold World.cell?
  rw [show (w.alloc (.cells vs.toArray t)).heap[(⟨w.heap.size, 0 + j, none⟩ : Addr).block]? = some (.cells vs.toArray t (0, 0)) from World.alloc_heap_new w (.cells vs.toArray t)]
  simp [h]
/-- How many rules a box holds. -/
def rulsLen (w : World) (b : Nat) : Nat := match w.cell? ⟨b, 0, none⟩ with
  | some (.slice _ n _) => n
  | _ => 0
theorem rulsLen_at {w : World} {b : Nat} {a : Option Addr} {n c : Nat} (h : w.cell? ⟨b, 0, none⟩ = some (.slice a n c)) : rulsLen w b = n := by
  unfold rulsLen; rw [h]
end
set_option maxRecDepth 100000 in
theorem parse_panic {w wr : World} {B n : Nat} {lv av ev : Value} {T0 : List Tok} {x : Nat × Int} {a0 a1 a5 a6 a7 a8 a9 a10 a11 a12 a13 a14 a15 a16 a17 a18 a19 a20 a21 a22 a23 a24 a25 a26 : Value} (l1 : Boxed wr B 22 lv) (l2 : Boxed wr (B + 1) 3 av) (l3 : Boxed wr (B + 2) 25 ev) (hE : Ext w wr) (hB : w.heap.size = B) (hX : readT T0 = .error x) (hn : ¬ 32768 < n) :
    bodyPostD Tryz.prog Tryz.f18 (ParseR n T0 w) (Exit.panic [{ v := .iface 62 (.agg #[.int .i64 x.1, .int .i64 x.2]), recovered := false }])
      { tmps := #[a0, a1, .pointer (some ⟨B, 0, none⟩), .pointer (some ⟨B + 1, 0, none⟩), .pointer (some ⟨B + 2, 0, none⟩), a5, a6, a7, a8, a9, a10, a11, a12, a13, a14, a15, a16, a17, a18, a19, a20, a21, a22, a23, a24, a25, a26], defers := [{ target := Target.fn (Fn.func 32) #[.pointer (some ⟨B, 0, none⟩), .pointer (some ⟨B + 1, 0, none⟩), .pointer (some ⟨B + 2, 0, none⟩)], args := #[] }] } wr := by
  refine leaves_cons (f := 32) (args := #[.pointer (some ⟨B, 0, none⟩), .pointer (some ⟨B + 1, 0, none⟩), .pointer (some ⟨B + 2, 0, none⟩)]) (by simp) (by simp [go_sem]) ?_
  refine (catch_stop B (B + 1) (B + 2) x.1 x.2 _ _ _ [] wr l1 l2 l3 (by omega) (by omega) (by omega)).mono ?_
  rintro e u' w' ⟨rfl, rfl, k1, k2, k3, hF⟩
  have c1 := k1.cell; have c2 := k2.cell; have c3 := k3.cell
  have hE' : Ext w w' := ((Fr.of_ext (S := fun _ => False) hE).onto hF (fun i hi e => by rcases e with e | e | e <;> omega)).ext (fun _ _ h => h)
  have hr : ParseR n T0 w (.returned (.tuple #[.slice none 0 0, .int .i64 x.1, .int .i64 x.2])) w' := ⟨_, _, _, rfl, hE', by rw [if_neg hn, hX]; exact ⟨rfl, rfl, rfl⟩⟩
  simp [Leaves, settle, results, Tryz.results18, go_sem, c1, c2, c3, hr]
set_option maxRecDepth 100000 in
theorem parse_done {w wr : World} {B n : Nat} {lv : Value} {l : List Rul} {T0 : List Tok} {a0 a1 a5 a6 a7 a8 a9 a10 a11 a12 a13 a14 a15 a16 a17 a18 a19 a20 a21 a22 a23 a24 a25 a26 : Value} (l1 : Boxed wr B 22 lv) (l2 : Boxed wr (B + 1) 3 (.int .i64 0)) (l3 : Boxed wr (B + 2) 25 (.int .i64 0)) (hE : Ext w wr) (hX : readT T0 = .ok l) (hn : ¬ 32768 < n) (hown : OwnR (B + 4) wr lv l) :
    bodyPostD Tryz.prog Tryz.f18 (ParseR n T0 w) Exit.ret
      { tmps := #[a0, a1, .pointer (some ⟨B, 0, none⟩), .pointer (some ⟨B + 1, 0, none⟩), .pointer (some ⟨B + 2, 0, none⟩), a5, a6, a7, a8, a9, a10, a11, a12, a13, a14, a15, a16, a17, a18, a19, a20, a21, a22, a23, a24, a25, a26], defers := [{ target := Target.fn (Fn.func 32) #[.pointer (some ⟨B, 0, none⟩), .pointer (some ⟨B + 1, 0, none⟩), .pointer (some ⟨B + 2, 0, none⟩)], args := #[] }] } wr := by
  refine leaves_cons (f := 32) (args := #[.pointer (some ⟨B, 0, none⟩), .pointer (some ⟨B + 1, 0, none⟩), .pointer (some ⟨B + 2, 0, none⟩)]) (by simp) (by simp [go_sem]) ?_
  refine (catch_idle B (B + 1) (B + 2) wr).mono ?_
  rintro e u' w' ⟨rfl, rfl, rfl⟩
  have c1 := l1.cell; have c2 := l2.cell; have c3 := l3.cell
  have hr : ParseR n T0 w (.returned (.tuple #[lv, .int .i64 0, .int .i64 0])) w' := ⟨_, _, _, rfl, hE, by rw [if_neg hn, hX]; exact ⟨rfl, rfl, hown.ruls⟩⟩
  simp [Leaves, settle, results, Tryz.results18, go_sem, c1, c2, c3, hr]
set_option maxRecDepth 100000 in
set_option maxHeartbeats 4000000 in
theorem Parse_any (s : Str) (ba : Option Addr) (n bc : Nat) (T : List Tok) (w : World) (hn : s.length = n) (hnc : n ≤ bc) (hcm : bc ≤ maxLen) (hs : Byts w ba s) (hL : Lex s 0 T) (h1 : VarI "strconv.ErrSyntax" w) (h2 : VarI "strconv.ErrRange" w) :
    Calls Tryz.prog 18 #[.slice ba n bc] w (ParseR n T w) := by
  by_cases hbig : 32768 < n
  · have hb' : decide (32768 < (n : Int)) = true := by simp; omega
    go_enter_defers Tryz.func18, Tryz.ntmps18
    go_wp2_with fail
    have hr : ParseR n T w (.returned (.tuple #[.slice none 0 0, .int .i64 0, .int .i64 2])) (((w.alloc (Obj.cells #[.slice none 0 0] 22)).alloc (Obj.cells #[.int .i64 0] 3)).alloc (Obj.cells #[.int .i64 2] 25)) := ⟨_, _, _, rfl, ext_alloc (ext_alloc (ext_alloc (Below.refl _ _) _) _) _, by rw [if_pos hbig]; exact ⟨rfl, rfl, rfl⟩⟩
    simp [bodyPostD, Leaves, results, Tryz.results18, go_sem, hr]
  · have hb' : decide (32768 < (n : Int)) = false := by simp; omega
    have hmf : ∀ (fn : Fn) (first cap : Array Value) (w : World), (Instr.makeFunc fn first cap).run Tryz.prog w = .ok (.func fn first cap) w := fun _ _ _ _ => rfl
    go_enter_defers Tryz.func18, Tryz.ntmps18
    obtain ⟨B, hB⟩ : ∃ B, w.heap.size = B := ⟨_, rfl⟩
    obtain ⟨W, hW⟩ : ∃ W, ((((w.alloc (Obj.cells #[.slice none 0 0] 22)).alloc (Obj.cells #[.int .i64 0] 3)).alloc (Obj.cells #[.int .i64 0] 25)).alloc (Obj.cells #[.slice ba n bc, .int .i64 0, .string ⟨#[]⟩] 65)) = W := ⟨_, rfl⟩
    have hEW : Ext w W := by rw [← hW]; exact ext_alloc (ext_alloc (ext_alloc (ext_alloc (Below.refl _ _) _) _) _) _
    have hlb : Boxed W B 22 (.slice none 0 0) := by rw [← hW, ← hB]; exact Boxed.alloc (Boxed.alloc (Boxed.alloc (Boxed.new w _ _) _) _) _
    have hab : Boxed W (B + 1) 3 (.int .i64 0) := by
      rw [← hW, ← hB]
      have := Boxed.new (w.alloc (Obj.cells #[.slice none 0 0] 22)) 3 (.int .i64 0)
      rw [World.size_alloc] at this
      exact Boxed.alloc (Boxed.alloc this _) _
    have heb : Boxed W (B + 2) 25 (.int .i64 0) := by
      rw [← hW, ← hB]
      have := Boxed.new ((w.alloc (Obj.cells #[.slice none 0 0] 22)).alloc (Obj.cells #[.int .i64 0] 3)) 25 (.int .i64 0)
      rw [World.size_alloc, World.size_alloc] at this
      exact Boxed.alloc this _
    have hrb : RdB W (B + 3) ba n bc 0 ⟨#[]⟩ := by
      rw [← hW, ← hB]
      have := World.alloc_heap_new (((w.alloc (Obj.cells #[.slice none 0 0] 22)).alloc (Obj.cells #[.int .i64 0] 3)).alloc (Obj.cells #[.int .i64 0] 25)) (Obj.cells #[.slice ba n bc, .int .i64 0, .string ⟨#[]⟩] 65)
      rw [World.size_alloc, World.size_alloc, World.size_alloc] at this
      exact this
    have hbl : ∀ p, ba = some p → s ≠ [] → p.block < B := fun p hp hs' => by
      obtain ⟨c, t, rfl⟩ : ∃ c t, s = c :: t := by cases s with | nil => exact absurd rfl hs' | cons c t => exact ⟨c, t, rfl⟩
      obtain ⟨b, o, hb, hc⟩ := hs 0 c rfl
      rw [hp] at hb
      cases hb
      rw [← hB]; exact cell_lt hc
    have HN := Lib.hid (next_any s (B + 3) ba n bc 0 ⟨#[]⟩ T W hn hnc hcm hrb (hs.ext hEW) (Nat.zero_le _) (show Lex (s.drop (0 + 0)) (0 + 0) T by simpa using hL) (fun p hp hs' e => by have := hbl p hp hs'; omega))
    have HK0 : Hid (∀ w1, Fr (· = B + 3) W w1 → Rd w1 (B + 3) ba n bc s T → PS w w1 B ba n bc s (.slice none 0 0) [] T) := Lib.hid fun w1 hF hR =>
      ⟨hF.boxed hlb (fun e => by have e' : B = B + 3 := e; omega), hF.boxed hab (fun e => by have e' : B + 1 = B + 3 := e; omega), hF.boxed heb (fun e => by have e' : B + 2 = B + 3 := e; omega), ⟨[], rfl, fun i cs x h => by simp at h, World.ownsRow_nil _ _ _ _⟩,
        ⟨hn, hnc, hcm, Byts.fr (hs.ext hEW) hF (fun p hp hs' e => by have e' : p.block = B + 3 := e; have := hbl p hp hs'; omega), fun p hp hs' => by have := hbl p hp hs'; omega, hR⟩, ((Fr.of_ext (S := fun _ => False) hEW).onto hF (fun i hi e => by have e' : i = B + 3 := e; omega)).ext (fun _ _ h => h), hbl, hB⟩
    have HV1 : Hid (∀ wr, Ext w wr → VarI "strconv.ErrSyntax" wr ∧ VarI "strconv.ErrRange" wr) := Lib.hid fun wr hE => ⟨h1.ext hE, h2.ext hE⟩
    clear hn hnc hcm hs hL h1 h2 hEW hlb hab heb hrb hbl
    obtain ⟨iR, hiR, hz0, hz1, hz2⟩ := info_parts info7R
    have HB := Lib.hid hB
    go_wp2_with fail
    rw [show B + 1 + 1 + 1 = B + 3 from rfl, show B + 1 + 1 = B + 2 from rfl]
    clear hW hB
    refine HN.out.mono ?_
    rintro e w1 ⟨rfl, hF1, hR1⟩
    have HP1 := Lib.hid (HK0.out w1 hF1 hR1)
    clear hF1 hR1 HN HK0
    go_wp2_with fail
    go_loopw [15] (fun _ wr => ∃ acc Tj v k, PS w wr B ba n bc s v acc Tj ∧ readT T = rulesP k acc Tj ∧ Tj.length ≤ k ∧ acc.length ≤ 32) (fun _ wr => 32 - rulsLen wr B)
    case atStart => exact ⟨[], T, _, T.length, HP1.out, rfl, Nat.le_refl _, Nat.zero_le _⟩
    case round =>
      obtain ⟨acc, Tj, v, k, hps, hrp, hk, h32⟩ := hrel
      obtain ⟨la, lc, rfl, hlc, hlm, _⟩ := hps.own.ruls
      obtain ⟨q, hq⟩ : ∃ q, acc.length = q := ⟨_, rfl⟩
      have HP := Lib.hid hps; have HRP := Lib.hid hrp; have HQ := Lib.hid hq
      have y2 := hps.rd.rd.blk.cells.2.2
      have x0 := hps.lb.cell; have fx0 := hps.lb.frozen
      have x1 := hps.ab.cell; have fx1 := hps.ab.frozen
      have x2 := hps.eb.cell; have fx2 := hps.eb.frozen
      have hkl := toks_tlen hps.rd.rd.toks
      have HTK := Lib.hid hps.rd.rd.toks
      rw [hq] at x0
      cases hem : (hdT Tj).toList.isEmpty
      · -- a rule follows
        obtain ⟨k, rfl⟩ : ∃ k', k = k' + 1 := ⟨k - 1, by omega⟩
        have hne : ¬ hdT Tj = bA [] := fun e => by rw [e, Lib.toList_data] at hem; cases hem
        have HRR : Hid (readT T = (ruleP acc Tj >>= fun a => rulesP k (acc ++ [a.1]) a.2)) := Lib.hid (by rw [hrp]; conv => lhs; unfold rulesP
                                                                                                          rw [if_neg hne])
        have hKept : Kept (B + 3) wr.drew la acc := ⟨fun w' hF => by
            obtain ⟨a', c', hv, _, _, hl⟩ := (hps.own.fr ((Fr.drew _ _).trans hF) (fun b e => by have e' : b = B + 3 := e; omega)).ruls
            cases hv; exact hl, fun w' hF => (HV1.out w' (((Fr.of_ext (S := fun _ => False) hps.ext).onto ((Fr.drew _ _).trans hF) (fun i hi e => by have e' : i = B + 3 := e; have := hps.base; omega)).ext (fun _ _ h => h))).1, fun w' hF => (HV1.out w' (((Fr.of_ext (S := fun _ => False) hps.ext).onto ((Fr.drew _ _).trans hF) (fun i hi e => by have e' : i = B + 3 := e; have := hps.base; omega)).ext (fun _ _ h => h))).2⟩
        have HT := Lib.hid (rule_s acc la q lc (hps.rd.ext (ext_drewR (Below.refl _ wr))) (by omega) hq (by omega) hlm hKept)
        clear hps hrp hq hKept hne hlc
        rcases rule_snd (ahead := acc) HTK.out with ⟨x, hx, _⟩ | ⟨⟨r, T'⟩, hx, hl32, hgd⟩
        · have HX : Hid (readT T = .error x) := Lib.hid (by rw [HRR.out, hx]; rfl)
          rw [hx] at HT
          clear hx x1 fx1 x2 fx2 fx0
          go_wp2_with fail
          refine wp_region_any (by kernel_rfl) ?_
          change wpAny _ _ _ _ _ _ _ (World.drew _)
          refine wpAny_ready (rs := [0, 1, 2]) (by kernel_rfl) (by simp) ?_
          refine AllReady.cons rfl (fun K hK => ?_) ?_
          · go_simp
            refine hK _ _ ?_
            clear hK K
            refine wpAny_ready (rs := [1, 2]) (by kernel_rfl) (by simp) ?_
            refine AllReady.cons rfl (fun K hK => ?_) ?_
            · go_simp
              refine hK _ _ ?_
              clear hK K
              refine wpAny_ready (rs := [2]) (by kernel_rfl) (by simp) ?_
              refine AllReady.cons rfl (fun K hK => ?_) AllReady.nil
              go_simp
              refine hK _ _ ?_
              clear hK K
              refine wpAny_ready (rs := [3]) (by kernel_rfl) (by simp) ?_
              refine AllReady.cons rfl (fun K hK => ?_) AllReady.nil
              go_simp
              refine HT.out.mono ?_
              rintro e w6 ⟨rfl, hF6⟩
              have hF := (Fr.drew (fun b => b = B + 3) wr).trans hF6
              exact parse_panic (hF.boxed HP.out.lb (by omega)) (hF.boxed HP.out.ab (by omega)) (hF.boxed HP.out.eb (by omega)) (HP.out.ext_fr hF) HP.out.base HX.out hbig
            refine AllReady.cons rfl (fun K hK => ?_) AllReady.nil
            go_simp
            refine hK _ _ ?_
            clear hK K
            refine wpAny_ready (rs := [1]) (by kernel_rfl) (by simp) ?_
            refine AllReady.cons rfl (fun K hK => ?_) AllReady.nil
            go_simp
            refine hK _ _ ?_
            clear hK K
            refine wpAny_ready (rs := [3]) (by kernel_rfl) (by simp) ?_
            refine AllReady.cons rfl (fun K hK => ?_) AllReady.nil
            go_simp
            refine HT.out.mono ?_
            rintro e w6 ⟨rfl, hF6⟩
            have hF := (Fr.drew (fun b => b = B + 3) wr).trans hF6
            exact parse_panic (hF.boxed HP.out.lb (by omega)) (hF.boxed HP.out.ab (by omega)) (hF.boxed HP.out.eb (by omega)) (HP.out.ext_fr hF) HP.out.base HX.out hbig
          refine AllReady.cons rfl (fun K hK => ?_) ?_
          · go_simp
            refine hK _ _ ?_
            clear hK K
            refine wpAny_ready (rs := [0, 2]) (by kernel_rfl) (by simp) ?_
            refine AllReady.cons rfl (fun K hK => ?_) ?_
            · go_simp
              refine hK _ _ ?_
              clear hK K
              refine wpAny_ready (rs := [2]) (by kernel_rfl) (by simp) ?_
              refine AllReady.cons rfl (fun K hK => ?_) AllReady.nil
              go_simp
              refine hK _ _ ?_
              clear hK K
              refine wpAny_ready (rs := [3]) (by kernel_rfl) (by simp) ?_
              refine AllReady.cons rfl (fun K hK => ?_) AllReady.nil
              go_simp
              refine HT.out.mono ?_
              rintro e w6 ⟨rfl, hF6⟩
              have hF := (Fr.drew (fun b => b = B + 3) wr).trans hF6
              exact parse_panic (hF.boxed HP.out.lb (by omega)) (hF.boxed HP.out.ab (by omega)) (hF.boxed HP.out.eb (by omega)) (HP.out.ext_fr hF) HP.out.base HX.out hbig
            refine AllReady.cons rfl (fun K hK => ?_) AllReady.nil
            go_simp
            refine hK _ _ ?_
            clear hK K
            refine wpAny_ready (rs := [0, 3]) (by kernel_rfl) (by simp) ?_
            refine AllReady.cons rfl (fun K hK => ?_) ?_
            · go_simp
              refine hK _ _ ?_
              clear hK K
              refine wpAny_ready (rs := [3]) (by kernel_rfl) (by simp) ?_
              refine AllReady.cons rfl (fun K hK => ?_) AllReady.nil
              go_simp
              refine HT.out.mono ?_
              rintro e w6 ⟨rfl, hF6⟩
              have hF := (Fr.drew (fun b => b = B + 3) wr).trans hF6
              exact parse_panic (hF.boxed HP.out.lb (by omega)) (hF.boxed HP.out.ab (by omega)) (hF.boxed HP.out.eb (by omega)) (HP.out.ext_fr hF) HP.out.base HX.out hbig
            refine AllReady.cons rfl (fun K hK => ?_) AllReady.nil
            go_simp
            refine HT.out.mono ?_
            rintro e w6 ⟨rfl, hF6⟩
            have hF := (Fr.drew (fun b => b = B + 3) wr).trans hF6
            exact parse_panic (hF.boxed HP.out.lb (by omega)) (hF.boxed HP.out.ab (by omega)) (hF.boxed HP.out.eb (by omega)) (HP.out.ext_fr hF) HP.out.base HX.out hbig
          refine AllReady.cons rfl (fun K hK => ?_) AllReady.nil
          go_simp
          refine hK _ _ ?_
          clear hK K
          refine wpAny_ready (rs := [0, 1]) (by kernel_rfl) (by simp) ?_
          refine AllReady.cons rfl (fun K hK => ?_) ?_
          · go_simp
            refine hK _ _ ?_
            clear hK K
            refine wpAny_ready (rs := [1]) (by kernel_rfl) (by simp) ?_
            refine AllReady.cons rfl (fun K hK => ?_) AllReady.nil
            go_simp
            refine hK _ _ ?_
            clear hK K
            refine wpAny_ready (rs := [3]) (by kernel_rfl) (by simp) ?_
            refine AllReady.cons rfl (fun K hK => ?_) AllReady.nil
            go_simp
            refine HT.out.mono ?_
            rintro e w6 ⟨rfl, hF6⟩
            have hF := (Fr.drew (fun b => b = B + 3) wr).trans hF6
            exact parse_panic (hF.boxed HP.out.lb (by omega)) (hF.boxed HP.out.ab (by omega)) (hF.boxed HP.out.eb (by omega)) (HP.out.ext_fr hF) HP.out.base HX.out hbig
          refine AllReady.cons rfl (fun K hK => ?_) AllReady.nil
          go_simp
          refine hK _ _ ?_
          clear hK K
          refine wpAny_ready (rs := [0, 3]) (by kernel_rfl) (by simp) ?_
          refine AllReady.cons rfl (fun K hK => ?_) ?_
          · go_simp
            refine hK _ _ ?_
            clear hK K
            refine wpAny_ready (rs := [3]) (by kernel_rfl) (by simp) ?_
            refine AllReady.cons rfl (fun K hK => ?_) AllReady.nil
            go_simp
            refine HT.out.mono ?_
            rintro e w6 ⟨rfl, hF6⟩
            have hF := (Fr.drew (fun b => b = B + 3) wr).trans hF6
            exact parse_panic (hF.boxed HP.out.lb (by omega)) (hF.boxed HP.out.ab (by omega)) (hF.boxed HP.out.eb (by omega)) (HP.out.ext_fr hF) HP.out.base HX.out hbig
          refine AllReady.cons rfl (fun K hK => ?_) AllReady.nil
          go_simp
          refine HT.out.mono ?_
          rintro e w6 ⟨rfl, hF6⟩
          have hF := (Fr.drew (fun b => b = B + 3) wr).trans hF6
          exact parse_panic (hF.boxed HP.out.lb (by omega)) (hF.boxed HP.out.ab (by omega)) (hF.boxed HP.out.eb (by omega)) (HP.out.ext_fr hF) HP.out.base HX.out hbig
        · have hkm : 0 ≤ r.keyMin := hgd.2.1
          have hbh : T'.length < Tj.length := hgd.2.2.2.1.2.1
          have HRR2 : Hid (readT T = rulesP k (acc ++ [r]) T') := Lib.hid (by rw [HRR.out, hx]; rfl)
          rw [hx] at HT
          have hB4 : B + 4 ≤ wr.drew.heap.size := HP.out.rd.rd.blk.lt
          have HC : Hid (Calls Tryz.prog 34 #[.pointer (some ⟨B + 3, 0, none⟩), .slice la q lc] wr.drew (fun e w' => ∃ pa pc, e = .returned (.agg #[.string r.name, .bool r.allow, .slice pa r.pats.length pc, .int .u64 r.keyMin, .int .i64 r.lifeMax, .int .i64 r.most, .int .i64 r.window]) ∧ RdS w' (B + 3) ba n bc s T' ∧
            RulC (B + 4) w' [.string r.name, .bool r.allow, .slice pa r.pats.length pc, .int .u64 r.keyMin, .int .i64 r.lifeMax, .int .i64 r.most, .int .i64 r.window] r ∧ Fr (· = B + 3) wr.drew w')) := Lib.hid (HT.out.mono (by
              rintro e w' ⟨⟨hR, pa, pc, rfl, ho, hs, h1, h2, h3⟩, hF⟩
              exact ⟨pa, pc, rfl, hR, RulC.read (own_low ho hB4) hs h1 h2 h3 hkm, hF⟩))
          have hq32 : q < 32 := by rw [← HQ.out]; omega
          clear HT hx hgd hkm hB4 x1 fx1 x2 fx2 h32 hl32
          go_wp2_with fail
          refine wp_cut (fun a a' w' => ∃ pa pc nb g cap, a' = ((((((a.put (some 20) (.slice la q lc)).put (some 21) (.pointer (some ⟨B + 3, 0, none⟩))).put (some 22) (.slice la q lc)).put (some 23) (.agg #[.string r.name, .bool r.allow, .slice pa r.pats.length pc, .int .u64 r.keyMin, .int .i64 r.lifeMax, .int .i64 r.most, .int .i64 r.window])).put (some 24) (.slice (some ⟨nb, 0, none⟩) 1 1)).put (some 25) (.slice (some ⟨g, 0, none⟩) (q + 1) cap)) ∧
            PS w w' B ba n bc s (.slice (some ⟨g, 0, none⟩) (acc ++ [r]).length cap) (acc ++ [r]) T') ?_ ?_
          · intro K hK
            refine wp_region_noPanic ?_
            go_region_law (first
              | (refine step_append_lies _ rfl _ _ _ rfl (B + 4) 40 iR _ 7 80 Tryz.underlying22 hiR hz0 hz1 hz2 rfl (by decide) (.slice la q lc) q css.flatten rfl (HO6.out.alloc _) ⟨w6.heap.size, 0, none⟩ 1 1 [.string r.name, .bool r.allow, .slice pa r.pats.length pc, .int .u64 r.keyMin, .int .i64 r.lifeMax, .int .i64 r.most, .int .i64 r.window] rfl rfl (seven_new _ _ _) (by simp [Value.oneCell']) (by decide) (by unfold maxLen; omega) (by omega) (by simp; omega) _ rfl ?_; intro g cap w7 hown7 hgrow7 hat7 hlt7; have HO7 := Lib.hid hown7; have HG7 := Lib.hid hgrow7; have hx7 : Boxed w7 B 22 (.slice la q lc) := by { have := HP6.out.appx (o := Obj.cells #[.string r.name, .bool r.allow, .slice pa r.pats.length pc, .int .u64 r.keyMin, .int .i64 r.lifeMax, .int .i64 r.most, .int .i64 r.window] 40) (by rw [HQ.out]; exact hgrow7); rw [HQ.out] at this; exact this }; have y7 := hx7.cell; have fy7 := hx7.frozen; clear hown7 hgrow7 hx7 hat7 hlt7)
              | (go_simp; refine HC.out.mono ?_; rintro e w6 ⟨pa, pc, rfl, hR6, hc6, hF6⟩; have HP6 := Lib.hid (HP.out.call ((Fr.drew _ _).trans hF6) hR6); have HC6 := Lib.hid hc6; obtain ⟨css, k1, k2, k3⟩ := HP6.out.own; have K1 := Lib.hid k1; have K2 := Lib.hid k2; have HO6 : Hid (w6.ownsRow (B + 4) 40 7 (.slice la q lc) q css.flatten) := Lib.hid (by rw [← HQ.out]; exact k3); have y6 : w6.cell? ⟨B, 0, none⟩ = some (.slice la q lc) := (by rw [← HQ.out]; exact HP6.out.lb.cell); have hlt6 := HP6.out.rd.rd.blk.lt; have hlt6' : B < w6.heap.size := (by omega); have hne6 : B ≠ w6.heap.size := (by omega); clear hR6 hc6 hF6 k1 k2 k3))
            all_goals
              refine NoPanic.normal (hK _ _ ⟨pa, pc, w6.heap.size, g, cap, ?_, ?_⟩)
              · simp only [Act.put, List.setIfInBounds_toArray, List.set_cons_succ, List.set_cons_zero]
              · have ho := HO7.out; have hg := HG7.out; have h6 := HO6.out
                rw [← HQ.out] at ho hg h6 ⊢
                exact HP6.out.app K1.out K2.out h6 HC6.out ho hg
          · rintro a' w7 ⟨pa, pc, nb, g, cap, rfl, hps7⟩
            simp only [Act.put, List.setIfInBounds_toArray, List.set_cons_succ, List.set_cons_zero]
            have HP7 := Lib.hid hps7
            clear hps7 HC x0 fx0 y2
            go_wp2_with fail
            go_roundw
            case rel => exact ⟨_, T', _, k, HP7.out, HRR2.out, by omega, by have := HQ.out; simp; omega⟩
            case measure => rw [rulsLen_at HP7.out.lb.cell, rulsLen_at HP.out.lb.cell]; have := HQ.out; simp; omega
      · have he : hdT Tj = bA [] := by
          have : (hdT Tj).data.toList = [] := by rw [← Lib.toList_data]; simpa using hem
          exact bytes_eq this
        have HX : Hid (readT T = .ok acc) := Lib.hid (by
          rw [hrp]
          cases k with
          | zero => rfl
          | succ k => unfold rulesP; exact if_pos he)
        clear hps hrp hq he
        go_wp2_with fail
        have l1 := Boxed.other (Boxed.other (Boxed.set (.slice la q lc) HP.out.lb) (show B ≠ B + 1 by omega) (.int .i64 0)) (show B ≠ B + 2 by omega) (.int .i64 0)
        have l2 := Boxed.other (Boxed.set (.int .i64 0) (Boxed.other HP.out.ab (show B + 1 ≠ B by omega) (.slice la q lc))) (show B + 1 ≠ B + 2 by omega) (.int .i64 0)
        have l3 := Boxed.set (.int .i64 0) (Boxed.other (Boxed.other HP.out.eb (show B + 2 ≠ B by omega) (.slice la q lc)) (show B + 2 ≠ B + 1 by omega) (.int .i64 0))
        have hF : Fr (fun b => b = B ∨ b = B + 1 ∨ b = B + 2) wr (((wr.setCell ⟨B, 0, none⟩ (.slice la q lc)).setCell ⟨B + 1, 0, none⟩ (.int .i64 0)).setCell ⟨B + 2, 0, none⟩ (.int .i64 0)) :=
          ((Fr.setCell _ ⟨B, 0, none⟩ _ (.inl rfl)).trans (Fr.setCell _ ⟨B + 1, 0, none⟩ _ (.inr (.inl rfl)))).trans (Fr.setCell _ ⟨B + 2, 0, none⟩ _ (.inr (.inr rfl)))
        have hE : Ext w (((wr.setCell ⟨B, 0, none⟩ (.slice la q lc)).setCell ⟨B + 1, 0, none⟩ (.int .i64 0)).setCell ⟨B + 2, 0, none⟩ (.int .i64 0)) := ((Fr.of_ext (S := fun _ => False) HP.out.ext).onto hF (fun i hi e => by have := HP.out.base; rcases e with e | e | e <;> omega)).ext (fun _ _ h => h)
        have ho := HP.out.own.fr hF (fun b e => by rcases e with e | e | e <;> omega)
        rw [HQ.out] at ho
        exact parse_done l1 l2 l3 hE HX.out hbig ho
end Go.Proofs.YteemkkmkkgfofaaGreatDoor
