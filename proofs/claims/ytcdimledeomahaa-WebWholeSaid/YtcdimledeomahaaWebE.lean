/- The walk of package web's Reads. -/
import Derived.Test.YtcdimledeomahaaWebD
set_option maxRecDepth 100000
namespace Go.Proofs.Ytcdimledeomahaa
open Go.RowKit Go.Lat

def Lk.val (l : Lk) : Value := .agg #[encStr l.b, encStr l.s, .int .i64 l.c, .int .i64 l.r]
def Ed.is (e : Ed) (l : Lk) : Bool := decide (e.s = l.s) && decide (e.c = l.c) && decide (e.r = l.r)
def findEd (es : List Ed) (l : Lk) : List Lk := match es.find? (fun e => e.is l) with
  | none => []
  | some e => e.reads
def readsOf (F : List UInt8 → Option (Int × List Ed)) (l : Lk) : List Lk := match F l.b with
  | none => []
  | some (_, es) => findEd es l

theorem findEd_none {es : List Ed} {l : Lk} (h : ∀ (j : Nat) (e : Ed), es[j]? = some e → e.is l = false) : findEd es l = [] := by
  have : es.find? (fun e => e.is l) = none := by
    rw [List.find?_eq_none]
    intro e he
    obtain ⟨j, hj⟩ := List.getElem?_of_mem he
    simp [h j e hj]
  rw [findEd, this]
theorem findEd_some {es : List Ed} {l : Lk} {k : Nat} {e : Ed} (hk : es[k]? = some e) (h : ∀ (j : Nat) (e : Ed), j < k → es[j]? = some e → e.is l = false) (he : e.is l = true) : findEd es l = e.reads := by
  have : es.find? (fun e => e.is l) = some e := by
    rw [List.find?_eq_some_iff_getElem]
    obtain ⟨hl, hk'⟩ := List.getElem?_eq_some_iff.1 hk
    refine ⟨he, k, hl, hk', fun j hj => ?_⟩
    simp [h j _ hj (List.getElem?_eq_getElem (by omega))]
  rw [findEd, this]

theorem Reads_nil (w : World) (l : Lk) : Calls Try.prog 19 #[.pointer none, l.val] w fun e w' => e = .returned (.slice none 0 0) ∧ Upd w w' (fun _ => False) := by
  unfold Lk.val
  go_enter Try.func19, Try.ntmps19
  go_wp2_with fail
  go_ret
  exact ⟨rfl, (Upd.refl w _).alloc _⟩

theorem field_known (W : World) (ver : Int) (sa : Option Addr) (n c : Nat) : (Instr.field 89 (.agg #[.int .i64 ver, .slice sa n c]) 1).run Try.prog W = .ok (.slice sa n c) W := by kernel_rfl

set_option maxHeartbeats 1600000 in
theorem Reads_row (w : World) (b bm n : Nat) (D : DataW Value) (h : WebAt w b bm n D) (A : Nat → Prop) (l : Lk) (hb : l.b.length ≤ maxLen) (ver : Int) (sa : Option Addr) (sc : Nat) (es : List Ed) (hes : es.length ≤ 1000) (hl : ∀ e ∈ es, e.reads.length ≤ 1000)
    (hv : D.atKey (.string l.b) (.held noKnown) = .held (.agg #[.int .i64 ver, .slice sa es.length sc])) (hx : EdsAt w A (.slice sa es.length sc) es) :
    Calls Try.prog 19 #[.pointer (some ⟨b, 0, none⟩), l.val] w fun e w' => ∃ a c, e = .returned (.slice a (findEd es l).length c) ∧ LksAt w' (.slice a (findEd es l).length c) (findEd es l) ∧ (∀ k, (Value.slice a (findEd es l).length c).ownBlock = some k → w.heap.size ≤ k) ∧ Upd w w' (fun _ => False) := by
  obtain ⟨lb, ls, lc, lr⟩ := l
  unfold Lk.val
  simp only at hb hv ⊢
  have c0 := cells1 h.c
  have blt := lt_at h.c
  have hkey : keyOf Try.prog 9 (encStr lb) = some (.string lb) := Go.WideMaps.keyOf_string_mk Try.underlying9 hb
  have hl1 := look_held (h.m.alloc (.cells #[encStr lb, encStr ls, .int .i64 lc, .int .i64 lr] 40)) strK Try.underlying85 (zeroKnown _) hkey hv
  have hl2 := look_held (h.m.alloc (.cells #[encStr lb, encStr ls, .int .i64 lc, .int .i64 lr] 40)).drew strK Try.underlying85 (zeroKnown _) hkey hv
  obtain ⟨N, hN⟩ : ∃ N, es.length = N := ⟨_, rfl⟩
  rw [hN] at hl1 hl2 hes hx
  have HN := hide hN
  clear hN hv
  have HX := hide hx
  clear hx
  have hf := field_known (w.alloc (.cells #[encStr lb, encStr ls, .int .i64 lc, .int .i64 lr] 40)).drew ver sa N sc
  have cX : (w.alloc (.cells #[encStr lb, encStr ls, .int .i64 lc, .int .i64 lr] 40)).drew.heap[w.heap.size]? = some (.cells #[encStr lb, encStr ls, .int .i64 lc, .int .i64 lr] 40 (0, 0)) := heap_alloc_new w _
  have u0 : Upd w (w.alloc (.cells #[encStr lb, encStr ls, .int .i64 lc, .int .i64 lr] 40)).drew (fun _ => False) := ((Upd.refl w _).alloc _).drew
  have HU := hide u0
  have HC := hide cX
  clear u0 cX
  go_enter Try.func19, Try.ntmps19
  go_wp2_with fail
  go_region
  go_wp2_with fail
  go_loopg [6, 18] N (fun q pv iv wr => ∃ k : Nat, k + q = N ∧ iv = .int .i64 k ∧ (∀ (j : Nat) (e : Ed), j < k → es[j]? = some e → e.is ⟨lb, ls, lc, lr⟩ = false) ∧ Upd (w.alloc (.cells #[encStr lb, encStr ls, .int .i64 lc, .int .i64 lr] 40)).drew wr (fun _ => False))
  case atStart => exact ⟨0, by omega, rfl, fun j e hj => absurd hj (by omega), Upd.refl _ _⟩
  case round =>
    obtain ⟨k, hk, rfl, hno, hu⟩ := hrel
    have HNO := hide hno
    have HW := hide hu
    clear hno
    obtain ⟨x0, x1, x2, x3⟩ := cells4 (hu.get HC.out id)
    have xlt := lt_at (hu.get HC.out id)
    clear hu
    by_cases hkN : k < N
    · obtain ⟨e, he⟩ : ∃ e, es[k]? = some e := ⟨_, List.getElem?_eq_getElem (by rw [HN.out]; exact hkN)⟩
      obtain ⟨-, xs, rx, rx1, hr⟩ := HX.out.upd (HU.out.then HW.out (fun _ _ => id)) (fun _ _ => id)
      obtain ⟨rv, ⟨z0, z1, z2, z3⟩, q2, q3⟩ := hr k e he
      rw [HN.out] at rx
      obtain ⟨g, off, cap, hv', hg, hc⟩ := Rw.pos rx (by omega)
      cases hv'
      have d0 := hc _ _ z0
      have d1 := hc _ _ z1
      have d2 := hc _ _ z2
      have d3 := hc _ _ z3
      rw [← Nat.add_assoc] at d1 d2 d3
      obtain ⟨la, lcc, rfl, -⟩ := Rw.form q2
      have hi0 : (0 : Int) ≤ (k : Int) := by omega
      have hi1 : (k : Int) < (N : Int) := by omega
      have hel := hl e (List.mem_of_getElem? he)
      have HQ := hide q2
      clear rx rx1 hr q2 q3 hc z0 z1 z2 z3
      obtain ⟨es', ec, er, erd⟩ := e
      simp only at d0 d1 d2 d3
      have HE := hide he
      clear he
      by_cases h1 : es' = ls
      · by_cases h2 : ec = lc
        · by_cases h3 : er = lr
          · subst h1
            subst h2
            subst h3
            have hF : findEd es ⟨lb, es', ec, er⟩ = erd := findEd_some HE.out HNO.out (by simp [Ed.is])
            have CL := CloneL_any (wr.alloc (.cells #[encStr es', .int .i64 ec, .int .i64 er, .slice la erd.length lcc] 83)) (.slice la erd.length lcc) erd.length _ (HQ.out.alloc _) (lkCells_one _) (by have := hel; simp only at this; omega)
            have HF := hide hF
            clear hF
            go_wp2_with fail
            refine Calls.mono CL ?_
            rintro e' w2 ⟨a2, c2, rfl, r2, nb2, u2⟩
            go_wp2_with fail
            go_ret
            rw [HF.out]
            refine ⟨a2, c2, rfl, r2, fun j hj => ?_, ((HU.out.then HW.out (fun _ _ => id)).alloc _).then u2 (fun _ _ => id)⟩
            have := nb2 j hj
            have := (HU.out.then HW.out (fun _ _ => id)).size
            simp at *
            omega
          · have HN2 : Hid (∀ (j : Nat) (e : Ed), j < k + 1 → es[j]? = some e → e.is ⟨lb, ls, lc, lr⟩ = false) := hide (fun j e hj he2 => by
              by_cases hjk : j = k
              · subst hjk
                rw [HE.out] at he2
                cases he2
                simp [Ed.is, h3]
              · exact HNO.out j e (by omega) he2)
            go_wp2_with fail
            go_roundg (gk - 1)
            case measure => omega
            case rel => exact ⟨k + 1, by omega, by go_num, HN2.out, HW.out.alloc _⟩
        · have HN2 : Hid (∀ (j : Nat) (e : Ed), j < k + 1 → es[j]? = some e → e.is ⟨lb, ls, lc, lr⟩ = false) := hide (fun j e hj he2 => by
            by_cases hjk : j = k
            · subst hjk
              rw [HE.out] at he2
              cases he2
              simp [Ed.is, h2]
            · exact HNO.out j e (by omega) he2)
          go_wp2_with fail
          go_roundg (gk - 1)
          case measure => omega
          case rel => exact ⟨k + 1, by omega, by go_num, HN2.out, HW.out.alloc _⟩
      · have HN2 : Hid (∀ (j : Nat) (e : Ed), j < k + 1 → es[j]? = some e → e.is ⟨lb, ls, lc, lr⟩ = false) := hide (fun j e hj he2 => by
          by_cases hjk : j = k
          · subst hjk
            rw [HE.out] at he2
            cases he2
            simp [Ed.is, h1]
          · exact HNO.out j e (by omega) he2)
        go_wp2_with fail
        go_roundg (gk - 1)
        case measure => omega
        case rel => exact ⟨k + 1, by omega, by go_num, HN2.out, HW.out.alloc _⟩
    · go_wp2_with fail
      go_ret
      have hF : findEd es ⟨lb, ls, lc, lr⟩ = [] := findEd_none (fun j e he => HNO.out j e (by have := (List.getElem?_eq_some_iff.1 he).1; rw [HN.out] at this; omega) he)
      rw [hF]
      exact ⟨none, 0, rfl, Rw.nil _ _ _, by simp [Value.ownBlock], HU.out.then HW.out (fun _ _ => id)⟩

theorem Reads_any (w : World) (b bm n : Nat) (D : DataW Value) (h : WebAt w b bm n D) (A : Nat → Prop) (F : List UInt8 → Option (Int × List Ed)) (hk : KnV w A D F) (l : Lk) (hb : l.b.length ≤ maxLen) (hes : ∀ s ver es, F s = some (ver, es) → es.length ≤ 1000 ∧ ∀ e ∈ es, e.reads.length ≤ 1000) :
    Calls Try.prog 19 #[.pointer (some ⟨b, 0, none⟩), l.val] w fun e w' => ∃ a c, e = .returned (.slice a (readsOf F l).length c) ∧ LksAt w' (.slice a (readsOf F l).length c) (readsOf F l) ∧ (∀ k, (Value.slice a (readsOf F l).length c).ownBlock = some k → w.heap.size ≤ k) ∧ Upd w w' (fun _ => False) := by
  unfold readsOf
  cases hF : F l.b with
  | none =>
    have hv := Go.Maps.atKey_of_not_has (hk.no l.b hF) (z := DataW.held noKnown)
    have k := Reads_row w b bm n D h A l hb 0 none 0 [] (by simp) (by simp) hv (EdsAt.nil _ _)
    simpa [findEd] using k
  | some p =>
    obtain ⟨ver, es⟩ := p
    obtain ⟨k1, a, c, k2, k3⟩ := hk.yes l.b ver es hF
    obtain ⟨q1, q2⟩ := hes _ _ _ hF
    exact Reads_row w b bm n D h A l hb ver a c es q1 q2 k2 k3

theorem KnV.empty (w : World) (A : Nat → Prop) : KnV w A (.map []) (fun _ => none) := ⟨fun _ _ => rfl, fun _ _ _ h => by cases h⟩
theorem KnV.upd {w w' : World} {A S : Nat → Prop} {D : DataW Value} {F : List UInt8 → Option (Int × List Ed)} (h : KnV w A D F) (u : Upd w w' S) (hS : ∀ k, A k → ¬ S k) : KnV w' A D F :=
  ⟨h.no, fun s ver es hs => by
    obtain ⟨k1, a, c, k2, k3⟩ := h.yes s ver es hs
    exact ⟨k1, a, c, k2, k3.upd u hS⟩⟩
theorem KnV.weaken {w : World} {A B : Nat → Prop} {D : DataW Value} {F : List UInt8 → Option (Int × List Ed)} (h : KnV w A D F) (hAB : ∀ k, k < w.heap.size → A k → B k) : KnV w B D F :=
  ⟨h.no, fun s ver es hs => by
    obtain ⟨k1, a, c, k2, k3⟩ := h.yes s ver es hs
    exact ⟨k1, a, c, k2, k3.weaken hAB⟩⟩
theorem KnV.put {w : World} {A : Nat → Prop} {D : DataW Value} {F : List UInt8 → Option (Int × List Ed)} (hD : Go.Maps.IsMap D) (h : KnV w A D F) (s : List UInt8) (ver : Int) (es : List Ed) (a : Option Addr) (c : Nat) (hx : EdsAt w A (.slice a es.length c) es) :
    KnV w A (D.put (.string s) (.held (.agg #[.int .i64 ver, .slice a es.length c]))) (fun t => if t = s then some (ver, es) else F t) := by
  constructor
  · intro t ht
    by_cases e : t = s
    · simp [e] at ht
    · simp only [e, if_false] at ht
      rw [Go.Maps.has_put_other (by simpa using e)]
      exact h.no t ht
  · intro t v' es' ht
    by_cases e : t = s
    · simp only [e, if_true] at ht
      cases ht
      subst e
      exact ⟨Go.Maps.has_put_same hD (show WideAt.IsKeyLit (Lit.string t) from trivial) _, a, c, Go.Maps.atKey_put_same hD (show WideAt.IsKeyLit (Lit.string t) from trivial) _ _, hx⟩
    · simp only [e, if_false] at ht
      obtain ⟨k1, a', c', k2, k3⟩ := h.yes t v' es' ht
      exact ⟨by rw [Go.Maps.has_put_other (by simpa using e)]; exact k1, a', c', by rw [Go.Maps.atKey_put_other (by simpa using e)]; exact k2, k3⟩
theorem KnV.del {w : World} {A : Nat → Prop} {D : DataW Value} {F : List UInt8 → Option (Int × List Ed)} (h : KnV w A D F) (s : List UInt8) :
    KnV w A (D.del (.string s)) (fun t => if t = s then none else F t) := by
  constructor
  · intro t ht
    by_cases e : t = s
    · subst e
      exact Go.Maps.has_del_same
    · simp only [e, if_false] at ht
      rw [Go.Maps.has_del_other (by simpa using e)]
      exact h.no t ht
  · intro t v' es' ht
    by_cases e : t = s
    · simp [e] at ht
    · simp only [e, if_false] at ht
      obtain ⟨k1, a', c', k2, k3⟩ := h.yes t v' es' ht
      exact ⟨by rw [Go.Maps.has_del_other (by simpa using e)]; exact k1, a', c', by rw [Go.Maps.atKey_del_other (by simpa using e)]; exact k2, k3⟩
end Go.Proofs.Ytcdimledeomahaa
