/- The walks of package web's Forget, Learn and Reads. -/
import Derived.Test.YtcdimledeomahaaWebC
set_option maxRecDepth 100000
namespace Go.Lat
open Go.Maps (Keyed)
section
variable {P : Program} {k t e : TypeId} {w : World} {b n : Nat} {D : DataW Value} {key : Value} {kl : Lit}
theorem look_ok_held (h : w.ownsMap P k heldElem b n D) (K : Keyed P k) (ht : P.underlying t = some (.map k e)) {z v : Value} (hz : (zeroValue e).run P w = .ok z w) (hkey : keyOf P k key = some kl) (hv : D.atKey kl (.held z) = .held v) {ok : Bool} (hok : Maps.has D kl = ok) :
    (Instr.lookup t (.map (some b)) key true).run P w = .ok (.tuple #[v, .bool ok]) w := by
  obtain ⟨v', ps, hrun, hr⟩ := h.look_ok K ht hz (zd := .held z) (zp := []) rfl hkey
  unfold heldElem at hr
  have h1 := congrArg Prod.fst (Option.some.inj hr)
  rw [hv] at h1
  cases h1
  subst hok
  exact hrun
theorem wpList_lookup_ok_held (w : World) {ops : Array Oper} {rest : List Oper} {o : Oper} {a : Act} {Q : Exit → Act → World → Prop}
    (hg : o.guard = none) (m x : Operand) (t : TypeId) (hop : o.op = Op.lookup t m x true)
    (k e : TypeId) (K : Keyed P k) (ht : P.underlying t = some (.map k e)) (z v : Value) (hz : (zeroValue e).run P w = .ok z w) (b n : Nat) (D : DataW Value)
    (hm : a.eval m = .map (some b)) (hown : w.ownsMap P k heldElem b n D) (key : Value) (kl : Lit) (hx : a.eval x = key) (hkey : keyOf P k key = some kl) (hv : D.atKey kl (.held z) = .held v) (ok : Bool) (hok : Maps.has D kl = ok)
    (hK : wpList P ops Q rest (a.put o.dst (.tuple #[v, .bool ok])) w) : wpList P ops Q (o :: rest) a w := by
  refine wpList_plain hg fun K' hK' => ?_
  have hrun := look_ok_held hown K ht hz hkey hv hok
  unfold Oper.wp
  simp [execOp, hop, hm, hx, hrun, Result.andThen]
  exact hK' _ _ hK
end
end Go.Lat
namespace Go.Proofs.Ytcdimledeomahaa
open Go.RowKit Go.Lat

/-- What a web knows: the version and the edges of each book. -/
structure KnV (w : World) (A : Nat → Prop) (D : DataW Value) (F : List UInt8 → Option (Int × List Ed)) : Prop where
  no : ∀ s, F s = none → Maps.has D (.string s) = false
  yes : ∀ s ver es, F s = some (ver, es) → Maps.has D (.string s) = true ∧ ∃ a c, D.atKey (.string s) (.held noKnown) = .held (.agg #[.int .i64 ver, .slice a es.length c]) ∧ EdsAt w A (.slice a es.length c) es

theorem WebAt.upd {w w' : World} {S : Nat → Prop} {b bm n : Nat} {D : DataW Value} (h : WebAt w b bm n D) (u : Upd w w' S) (h1 : ¬ S b) (h2 : ¬ S bm) : WebAt w' b bm n D := by
  refine ⟨u.get h.c h1, ?_⟩
  obtain ⟨es, clock, hb, k⟩ := h.m
  exact ⟨es, clock, u.get hb h2, k⟩

theorem Forget_nil (w : World) (s : Value) : Calls Try.prog 21 #[.pointer none, s] w fun e w' => e = .returned (.tuple #[]) ∧ w' = w := by
  go_enter Try.func21, Try.ntmps21
  go_wp2_with fail
  go_end0
  exact ⟨rfl, rfl⟩

theorem Forget_any (w : World) (b bm n : Nat) (D : DataW Value) (h : WebAt w b bm n D) (s : List UInt8) (hs : s.length ≤ maxLen) :
    Calls Try.prog 21 #[.pointer (some ⟨b, 0, none⟩), encStr s] w fun e w' => e = .returned (.tuple #[]) ∧ WebAt w' b bm n (D.del (.string s)) ∧ Upd w w' (fun k => k = bm) := by
  have c0 := cells1 h.c
  have hm := h.m
  go_enter Try.func21, Try.ntmps21
  go_wp2_with (at_delete; refine wpList_delete_own _ rfl _ _ 85 9 rfl 89 strK Try.underlying85 heldElem bm n D rfl hm _ _ rfl (Go.WideMaps.keyOf_string_mk Try.underlying9 hs) ?_; intro w1 hown1 hturn1)
  go_end0
  have g := hturn1.grown
  refine ⟨rfl, ⟨block_grown g h.c (fun e => h.ne (Option.some.inj e).symm), hown1⟩, (Upd.refl w _).grown g (fun k e => .inr (Option.some.inj e).symm)⟩

theorem Learn_nil (w : World) (s : Value) (ver : Int) (v : Value) : Calls Try.prog 9 #[.pointer none, s, .int .i64 ver, v] w fun e w' => e = .returned (.bool false) ∧ w' = w := by
  go_enter Try.func9, Try.ntmps9
  go_wp2_with fail
  go_ret
  exact ⟨rfl, rfl⟩

theorem Learn_refuse (w : World) (b bm n : Nat) (D : DataW Value) (h : WebAt w b bm n D) (s : List UInt8) (hs : s.length ≤ maxLen) (ver ver0 : Int) (x : Value) (sa : Option Addr) (sl sc : Nat) (hv : D.atKey (.string s) (.held noKnown) = .held (.agg #[.int .i64 ver0, .slice sa sl sc])) (hok : Maps.has D (.string s) = true) (hle : ver ≤ ver0) :
    Calls Try.prog 9 #[.pointer (some ⟨b, 0, none⟩), encStr s, .int .i64 ver, x] w fun e w' => e = .returned (.bool false) ∧ Upd w w' (fun _ => False) := by
  have c0 := cells1 h.c
  have hm := h.m
  have d1 : decide (ver ≤ ver0) = true := by simpa using hle
  go_enter Try.func9, Try.ntmps9
  go_wp2_with (at_lookup; refine wpList_lookup_ok_held _ rfl _ _ 85 rfl 9 89 strK Try.underlying85 _ _ (zeroKnown _) bm n D rfl hm _ _ rfl (Go.WideMaps.keyOf_string_mk Try.underlying9 hs) hv true hok ?_)
  go_ret
  exact ⟨rfl, (Upd.refl w _).alloc _⟩

set_option maxHeartbeats 1600000 in
theorem Learn_accept (w : World) (b bm n : Nat) (D : DataW Value) (h : WebAt w b bm n D) (hn : n < 1000000) (s : List UInt8) (hs : s.length ≤ maxLen) (ver ver0 : Int) (A : Nat → Prop) (x : Value) (es : List Ed) (hx : EdsAt w A x es) (hes : es.length ≤ 1000) (hl : ∀ e ∈ es, e.reads.length ≤ 1000)
    (sa : Option Addr) (sl sc : Nat) (hv : D.atKey (.string s) (.held noKnown) = .held (.agg #[.int .i64 ver0, .slice sa sl sc])) (ok : Bool) (hok : Maps.has D (.string s) = ok) (hle : ok = true → ver0 < ver) :
    Calls Try.prog 9 #[.pointer (some ⟨b, 0, none⟩), encStr s, .int .i64 ver, x] w fun e w' => e = .returned (.bool true) ∧
      ∃ a c, WebAt w' b bm (n + 1) (D.put (.string s) (.held (.agg #[.int .i64 ver, .slice a es.length c]))) ∧ EdsAt w' (fun k => w.heap.size ≤ k) (.slice a es.length c) es ∧ Upd w w' (fun k => k = bm) := by
  have c0 := cells1 h.c
  have hm := h.m
  have hkey : keyOf Try.prog 9 (encStr s) = some (.string s) := Go.WideMaps.keyOf_string_mk Try.underlying9 hs
  have blt := lt_at h.c
  have bmlt := h.m.lt
  have u0 : Upd w (w.alloc (.cells #[.int .i64 ver0, .slice sa sl sc] 89)).drew (fun _ => False) := ((Upd.refl w _).alloc _).drew
  have CP := copied_any (w.alloc (.cells #[.int .i64 ver0, .slice sa sl sc] 89)).drew A x es (hx.upd u0 (fun _ _ => id)) hes hl
  obtain ⟨xa, xc, rfl, -⟩ := Rw.form hx.2.choose_spec.1
  have HX := hide hx
  clear hx
  have hM : Hid ((w.alloc (.cells #[.int .i64 ver0, .slice sa sl sc] 89)).drew.ownsMap Try.prog 9 heldElem bm n D) := hide (hm.alloc _).drew
  have hB : Hid ((w.alloc (.cells #[.int .i64 ver0, .slice sa sl sc] 89)).drew.heap[b]? = some (.cells #[.map (some bm)] 87 (0, 0))) := hide (block_alloc h.c _)
  cases ok with
  | false =>
    go_enter Try.func9, Try.ntmps9
    go_wp2_with (at_lookup; refine wpList_lookup_ok_held _ rfl _ _ 85 rfl 9 89 strK Try.underlying85 _ _ (zeroKnown _) bm n D rfl hm _ _ rfl hkey hv false hok ?_)
    go_region_law (go_simp; go_at_call 24; refine Calls.mono CP ?_; rintro e w3 ⟨a, c, rfl, e3, u3⟩; have cB := cells1 (u3.get hB.out id); obtain ⟨w4, E4, m4, g4⟩ := World.ownsMap.update (w := w3) (by obtain ⟨es, clock, hb, k⟩ := hM.out; exact ⟨es, clock, u3.get hb id, k⟩) strK Try.underlying85 (by unfold maxLen; omega) hkey (H := Value) (val := Value.agg #[.int .i64 ver, .slice a es.length c]) (d := DataW.held (Value.agg #[.int .i64 ver, .slice a es.length c])) (ps := []) rfl)
    all_goals go_wp2_with fail
    all_goals go_ret
    all_goals refine ⟨rfl, a, c, ⟨block_grown g4 (u3.get hB.out id) (fun e => h.ne (Option.some.inj e).symm), m4⟩, ?_, ?_⟩
    all_goals first
      | exact (e3.upd ((Upd.refl w3 (fun k => k = bm)).grown g4 (fun k e => .inr (Option.some.inj e).symm)) (fun k hk e => by simp at hk; omega)).weaken (fun k _ hk => by simp at hk; omega)
      | exact ((u0.weaken (T := fun k => k = bm) (fun _ _ => False.elim)).then u3 (fun _ _ => False.elim)).grown g4 (fun k e => .inr (Option.some.inj e).symm)
  | true =>
    have d1 : decide (ver ≤ ver0) = false := by have := hle rfl; simp; omega
    go_enter Try.func9, Try.ntmps9
    go_wp2_with (at_lookup; refine wpList_lookup_ok_held _ rfl _ _ 85 rfl 9 89 strK Try.underlying85 _ _ (zeroKnown _) bm n D rfl hm _ _ rfl hkey hv true hok ?_)
    go_region_law (go_simp; go_at_call 24; refine Calls.mono CP ?_; rintro e w3 ⟨a, c, rfl, e3, u3⟩; have cB := cells1 (u3.get hB.out id); obtain ⟨w4, E4, m4, g4⟩ := World.ownsMap.update (w := w3) (by obtain ⟨es, clock, hb, k⟩ := hM.out; exact ⟨es, clock, u3.get hb id, k⟩) strK Try.underlying85 (by unfold maxLen; omega) hkey (H := Value) (val := Value.agg #[.int .i64 ver, .slice a es.length c]) (d := DataW.held (Value.agg #[.int .i64 ver, .slice a es.length c])) (ps := []) rfl)
    all_goals go_wp2_with fail
    all_goals go_ret
    all_goals refine ⟨rfl, a, c, ⟨block_grown g4 (u3.get hB.out id) (fun e => h.ne (Option.some.inj e).symm), m4⟩, ?_, ?_⟩
    all_goals first
      | exact (e3.upd ((Upd.refl w3 (fun k => k = bm)).grown g4 (fun k e => .inr (Option.some.inj e).symm)) (fun k hk e => by simp at hk; omega)).weaken (fun k _ hk => by simp at hk; omega)
      | exact ((u0.weaken (T := fun k => k = bm) (fun _ _ => False.elim)).then u3 (fun _ _ => False.elim)).grown g4 (fun k e => .inr (Option.some.inj e).symm)
end Go.Proofs.Ytcdimledeomahaa
