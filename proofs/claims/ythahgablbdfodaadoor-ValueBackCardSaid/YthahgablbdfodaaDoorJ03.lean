/- Bytes of a text in a row of its own; the walks of package value's letters, Lower, Upper. -/
import Derived.Test.YthahgablbdfodaaDoorJ02
import Derived.Lib.ConvBytes
import Derived.Laws.IdiomStrings
import Derived.Lib.AtoiErrMem
/- Bytes of a text in a row of its own; the walks of package value's letters, Lower, Upper. -/
set_option maxRecDepth 100000
namespace Go.Proofs.YthahgablbdfodaaDoor
open Go.RowKit Go.Lat Go.Lib

/-- A row of bytes. -/
def Buf (w : World) (g : Nat) (l : List UInt8) : Prop := ∃ cs t fr, w.heap[g]? = some (.cells cs t fr) ∧ l.length ≤ cs.size ∧ (∀ (j : Nat) (x : UInt8), l[j]? = some x → cs[j]? = some (Value.int .u8 (x.toNat : Int))) ∧ l.length ≤ fr.1
theorem Buf.lt {w : World} {g : Nat} {l : List UInt8} (h : Buf w g l) : g < w.heap.size := by
  obtain ⟨cs, t, fr, h1, _⟩ := h
  exact lt_at h1
theorem Buf.cell {w : World} {g : Nat} {l : List UInt8} (h : Buf w g l) {j : Nat} {x : UInt8} (hj : l[j]? = some x) : w.cell? ⟨g, j, none⟩ = some (Value.int .u8 (x.toNat : Int)) := by
  obtain ⟨cs, t, fr, h1, h2, h3, h4⟩ := h
  rw [cell_of_row w g j cs t fr h1]
  exact h3 j x hj
theorem Buf.free {w : World} {g : Nat} {l : List UInt8} (h : Buf w g l) {j : Nat} (hj : j < l.length) : w.frozen? ⟨g, j, none⟩ = false := by
  obtain ⟨cs, t, ⟨lo, hi⟩, h1, h2, h3, h4⟩ := h
  simp only at h4
  simp [World.frozen?, h1]
  omega
theorem Buf.set {w : World} {g : Nat} {l : List UInt8} (h : Buf w g l) {i : Nat} (hi : i < l.length) (y : UInt8) : Buf (w.setCell ⟨g, i, none⟩ (.int .u8 (y.toNat : Int))) g (l.set i y) := by
  obtain ⟨cs, t, fr, h1, h2, h3, h4⟩ := h
  refine ⟨_, t, fr, block_setCell h1 i _, by simpa using h2, fun j x hj => ?_, by simpa using h4⟩
  by_cases e : j = i
  · subst e
    have hx : x = y := by
      rw [List.getElem?_set_self hi] at hj
      exact (Option.some.inj hj).symm
    subst hx
    rw [Array.getElem?_setIfInBounds_self, if_pos (by omega)]
  · rw [List.getElem?_set_ne (fun q => e q.symm)] at hj
    rw [Array.getElem?_setIfInBounds_ne (fun q => e q.symm)]
    exact h3 j x hj
theorem Buf.made (w : World) (e : TypeId) (s : ByteArray) : Buf (bytesWorld w e s) w.heap.size s.data.toList := by
  refine ⟨_, e, _, bytesWorld_at_new w e s, ?_, fun j x hj => ?_, ?_⟩
  · rw [Array.length_toList]
    simp [bytesCells]
  · have hl : j < s.data.size := by
      have := (List.getElem?_eq_some_iff.1 hj).1
      simpa using this
    simp only [bytesCells]
    rw [Array.getElem?_append_left (by simpa using hl), Array.getElem?_map]
    rw [Array.getElem?_toList] at hj
    rw [hj]
    rfl
  · show s.data.toList.length ≤ (bytesCells w e s).size
    rw [Array.length_toList]
    simp [bytesCells]
theorem Buf.world (w : World) (e : TypeId) (s : ByteArray) : Upd w (bytesWorld w e s) (fun _ => False) := Upd.of_below (Lib.bytesWorld_below _ _ _) _
theorem Buf.back {w : World} {g : Nat} {l : List UInt8} (h : Buf w g l) (cap n : Nat) (hn : l.length = n) : (convert 55 9 (.slice (some ⟨g, 0, none⟩) n cap)).run Tryd.prog w = .ok (.string ⟨l.toArray⟩) w := by
  subst hn
  refine run_convert_bytes_back w 55 9 5 ⟨g, 0, none⟩ cap l Tryd.underlying55 Tryd.underlying5 Tryd.underlying9 (fun j hj => ?_)
  have := h.cell (List.getElem?_eq_getElem hj)
  rw [← this]
  congr 1
  unfold Addr.add
  split
  · rename_i e; rw [e]
  · simp

def lowB (c : UInt8) : UInt8 := if 65 ≤ c.toNat ∧ c.toNat < 91 then UInt8.ofNat (c.toNat + 32) else c
def upB (c : UInt8) : UInt8 := if 97 ≤ c.toNat ∧ c.toNat < 123 then UInt8.ofNat (c.toNat - 32) else c
/-- The bytes, the first i of which are turned. -/
def turned (h : UInt8 → UInt8) (i : Nat) (s : List UInt8) : List UInt8 := (s.take i).map h ++ s.drop i
theorem turned_len (h : UInt8 → UInt8) (i : Nat) (s : List UInt8) : (turned h i s).length = s.length := by
  simp [turned]
  omega
theorem turned_at {h : UInt8 → UInt8} {i : Nat} {s : List UInt8} {c : UInt8} (hc : s[i]? = some c) : (turned h i s)[i]? = some c := by
  have hl := (List.getElem?_eq_some_iff.1 hc).1
  unfold turned
  rw [List.getElem?_append_right (by simp; omega)]
  simp only [List.length_map, List.length_take, List.getElem?_drop]
  rw [← hc]
  congr 1
  omega
theorem turned_next {h : UInt8 → UInt8} {i : Nat} {s : List UInt8} {c : UInt8} (hc : s[i]? = some c) : turned h (i + 1) s = (turned h i s).set i (h c) := by
  have hl := (List.getElem?_eq_some_iff.1 hc).1
  have hg := (List.getElem?_eq_some_iff.1 hc).2
  unfold turned
  rw [List.take_add_one, hc, List.set_append_right _ _ (by simp; omega)]
  have e : i - (List.map h (List.take i s)).length = 0 := by simp; omega
  rw [e, List.drop_eq_getElem_cons hl, hg]
  simp
theorem turned_all (h : UInt8 → UInt8) (s : List UInt8) : turned h s.length s = s.map h := by simp [turned]

theorem set_same {l : List UInt8} {i : Nat} {c : UInt8} (h : l[i]? = some c) : l.set i c = l := by
  apply List.ext_getElem?
  intro j
  by_cases e : i = j
  · subst e
    rw [List.getElem?_set_self (List.getElem?_eq_some_iff.1 h).1, h]
  · rw [List.getElem?_set_ne e]
set_option maxHeartbeats 1600000 in
theorem letters_any (w : World) (s : ByteArray) (hs : s.size ≤ 1000000) (f : Nat) (d : Int) (h : UInt8 → UInt8) (hf : f + 26 ≤ 255) (hin : ∀ c : UInt8, f ≤ c.toNat → c.toNat < f + 26 → ((h c).toNat : Int) = (c.toNat : Int) + d) (hout : ∀ c : UInt8, ¬ (f ≤ c.toNat ∧ c.toNat < f + 26) → h c = c) :
    Calls Tryd.prog 33 #[.string s, .int .u8 f, .int .i64 d] w fun e w' => e = .returned (.string ⟨(s.data.toList.map h).toArray⟩) ∧ Upd w w' (fun _ => False) := by
  have KC := fun w => Lib.run_convert_string_bytes (P := Tryd.prog) w 9 55 5 s Tryd.underlying9 Tryd.underlying55 Tryd.underlying5
  have hB := Buf.made w 5 s
  have hU := Buf.world w 5 s
  obtain ⟨W, hW⟩ : ∃ W, bytesWorld w 5 s = W := ⟨_, rfl⟩
  have KW := KC w
  rw [hW] at hB hU KW
  obtain ⟨cap, hcap⟩ : ∃ cap, grownCap w s.size 0 5 = cap := ⟨_, rfl⟩
  rw [hcap] at KW
  obtain ⟨N, hN⟩ : ∃ N, s.size = N := ⟨_, rfl⟩
  have hl : s.data.toList.length = N := by rw [← hN]; exact Array.length_toList
  rw [hN] at KW hs
  obtain ⟨l, hl2⟩ : ∃ l, s.data.toList = l := ⟨_, rfl⟩
  rw [hl2] at hB hl ⊢
  have HB := hide hB
  have HU := hide hU
  have HL := hide hl
  have HIN := hide hin
  have HOUT := hide hout
  have hwf : IntKind.u8.wrap ((f : Int) + 26) = (f : Int) + 26 := by rw [IntKind.wrap_u8]; omega
  have gl := hB.lt
  clear KC hW hcap hN hB hU hl hl2 hin hout
  go_enter Tryd.func33, Tryd.ntmps33
  go_wp2_with fail
  obtain ⟨g, hg⟩ : ∃ g, w.heap.size = g := ⟨_, rfl⟩
  have HG := hide hg
  have hB0 := HB.out
  rw [hg] at hB0 gl ⊢
  have HB0 := hide hB0
  clear hg hB0 KW
  go_loopg [14] N (fun q iv wr => ∃ i : Nat, i + q = N ∧ iv = .int .i64 i ∧ Buf wr g (turned h i l) ∧ Upd w wr (fun _ => False))
  case atStart => exact ⟨0, by omega, rfl, by simpa [turned] using HB0.out, HU.out⟩
  case round =>
    obtain ⟨i, hi, rfl, hb, hu⟩ := hrel
    by_cases hiN : i < N
    · obtain ⟨c, hc⟩ : ∃ c, l[i]? = some c := ⟨_, List.getElem?_eq_getElem (by rw [HL.out]; exact hiN)⟩
      have c0 := hb.cell (turned_at (h := h) hc)
      have f0 := hb.free (j := i) (by rw [turned_len, HL.out]; exact hiN)
      have bl := hb.lt
      have hi0 : (0 : Int) ≤ (i : Int) := by omega
      have hi1 : (i : Int) < (N : Int) := by omega
      have hnx := turned_next (h := h) hc
      have hst := hb.set (i := i) (by rw [turned_len, HL.out]; exact hiN) (h c)
      rw [← hnx] at hst
      have c255 : c.toNat < 256 := c.toNat_lt
      have hg0 : w.heap.size ≤ g := Nat.le_of_eq HG.out
      have HST := hide hst
      have HBI := hide hb
      have HUI := hide hu
      have HHC := hide hc
      clear hst hb hu hnx hc
      by_cases h1 : f ≤ c.toNat
      · have d1 : decide ((f : Int) ≤ (c.toNat : Int)) = true := by simp; omega
        have d1' : decide (f ≤ c.toNat) = true := by simpa using h1
        by_cases h2 : c.toNat < f + 26
        · have d2 : decide ((c.toNat : Int) < (f : Int) + 26) = true := by simp; omega
          have hd := HIN.out c h1 h2
          have hwr : IntKind.i64.wrap ((c.toNat : Int) + d) = ((h c).toNat : Int) := by
            have := (h c).toNat_lt
            rw [← hd, IntWalk.i64_in _ (by omega)]
          have hw8 : IntKind.u8.wrap ((h c).toNat : Int) = ((h c).toNat : Int) := by
            have := (h c).toNat_lt
            rw [IntKind.wrap_u8]
            omega
          have hwi : IntKind.i64.wrap (c.toNat : Int) = (c.toNat : Int) := IntWalk.i64_in _ (by omega)
          clear h1 h2 hd
          go_wp2_with fail
          go_roundg (gk - 1)
          case measure => omega
          case rel => exact ⟨i + 1, by omega, by go_num, HST.out, HUI.out.setCell _ _ (.inl hg0)⟩
        · have d2 : decide ((c.toNat : Int) < (f : Int) + 26) = false := by simp; omega
          have ho := HOUT.out c (fun q => h2 q.2)
          have hsm : turned h (i + 1) l = turned h i l := by
            rw [turned_next HHC.out, ho]
            exact set_same (turned_at HHC.out)
          have HSM := hide hsm
          clear h1 h2 ho hsm
          go_wp2_with fail
          go_roundg (gk - 1)
          case measure => omega
          case rel => exact ⟨i + 1, by omega, by go_num, by rw [HSM.out]; exact HBI.out, HUI.out⟩
      · have d1 : decide ((f : Int) ≤ (c.toNat : Int)) = false := by simp; omega
        have d1' : decide (f ≤ c.toNat) = false := by simpa using h1
        have ho := HOUT.out c (fun q => h1 q.1)
        have hsm : turned h (i + 1) l = turned h i l := by
          rw [turned_next HHC.out, ho]
          exact set_same (turned_at HHC.out)
        have HSM := hide hsm
        clear h1 ho hsm
        go_wp2_with fail
        go_roundg (gk - 1)
        case measure => omega
        case rel => exact ⟨i + 1, by omega, by go_num, by rw [HSM.out]; exact HBI.out, HUI.out⟩
    · have hi1 : ¬ (i : Int) < (N : Int) := by omega
      have hiN2 : i = l.length := by rw [HL.out]; omega
      have hb2 : Buf wr g (l.map h) := by rw [← turned_all h l, ← hiN2]; exact hb
      have KB := hb2.back cap N (by rw [List.length_map]; exact HL.out)
      have HUI := hide hu
      clear hb hu hb2 hiN2
      go_wp2_with fail
      go_ret
      exact ⟨rfl, HUI.out⟩
theorem low_in (c : UInt8) (h1 : 65 ≤ c.toNat) (h2 : c.toNat < 65 + 26) : ((lowB c).toNat : Int) = (c.toNat : Int) + 32 := by
  unfold lowB
  rw [if_pos ⟨h1, h2⟩, UInt8.toNat_ofNat']
  omega
theorem low_out (c : UInt8) (h : ¬ (65 ≤ c.toNat ∧ c.toNat < 65 + 26)) : lowB c = c := by
  unfold lowB
  rw [if_neg h]
theorem up_in (c : UInt8) (h1 : 97 ≤ c.toNat) (h2 : c.toNat < 97 + 26) : ((upB c).toNat : Int) = (c.toNat : Int) + -32 := by
  unfold upB
  rw [if_pos ⟨h1, h2⟩, UInt8.toNat_ofNat']
  omega
theorem up_out (c : UInt8) (h : ¬ (97 ≤ c.toNat ∧ c.toNat < 97 + 26)) : upB c = c := by
  unfold upB
  rw [if_neg h]
def lowS (s : List UInt8) : List UInt8 := s.map lowB
def upS (s : List UInt8) : List UInt8 := s.map upB
theorem Lower_any (w : World) (s : List UInt8) (hs : s.length ≤ 1000000) : Calls Tryd.prog 18 #[enS s] w fun e w' => e = .returned (enS (lowS s)) ∧ Upd w w' (fun _ => False) := by
  have L := fun w => letters_any w ⟨s.toArray⟩ hs 65 32 lowB (by omega) low_in low_out
  obtain ⟨z, hz⟩ : ∃ z, s.map lowB = z := ⟨_, rfl⟩
  unfold lowS
  simp only [hz] at L ⊢
  go_enter Tryd.func18, Tryd.ntmps18
  go_wp2_with (go_at_call 33; refine Calls.mono (L _) ?_; rintro e w1 ⟨rfl, u1⟩)
  go_ret
  exact ⟨rfl, u1⟩
theorem Upper_any (w : World) (s : List UInt8) (hs : s.length ≤ 1000000) : Calls Tryd.prog 40 #[enS s] w fun e w' => e = .returned (enS (upS s)) ∧ Upd w w' (fun _ => False) := by
  have L := fun w => letters_any w ⟨s.toArray⟩ hs 97 (-32) upB (by omega) up_in up_out
  obtain ⟨z, hz⟩ : ∃ z, s.map upB = z := ⟨_, rfl⟩
  unfold upS
  simp only [hz] at L ⊢
  go_enter Tryd.func40, Tryd.ntmps40
  go_wp2_with (go_at_call 33; refine Calls.mono (L _) ?_; rintro e w1 ⟨rfl, u1⟩)
  go_ret
  exact ⟨rfl, u1⟩
end Go.Proofs.YthahgablbdfodaaDoor
/- The walk of the reference's texts: which of two comes first, by bytes. -/
set_option maxRecDepth 100000
namespace Go.Proofs.YthahgablbdfodaaDoor
open Go.RowKit Go.Lat Go.Lib

theorem lt_cons8 {x y : UInt8} {a b : List UInt8} : (x :: a) < (y :: b) ↔ x < y ∨ (x = y ∧ a < b) := List.cons_lt_cons_iff
theorem lt_drop : ∀ {a b : List UInt8} (n : Nat), a.take n = b.take n → (a < b ↔ a.drop n < b.drop n)
  | a, b, 0, _ => by simp
  | [], [], n + 1, _ => by simp
  | [], y :: b, n + 1, h => by simp at h
  | x :: a, [], n + 1, h => by simp at h
  | x :: a, y :: b, n + 1, h => by
    simp only [List.take_succ_cons, List.cons.injEq] at h
    obtain ⟨rfl, h⟩ := h
    rw [lt_cons8, List.drop_succ_cons, List.drop_succ_cons, ← lt_drop n h]
    constructor
    · rintro (q | ⟨_, q⟩)
      · exact absurd q (by simp)
      · exact q
    · exact fun q => .inr ⟨rfl, q⟩
theorem less_at {a b : List UInt8} {j : Nat} {x y : UInt8} (ht : a.take j = b.take j) (hx : a[j]? = some x) (hy : b[j]? = some y) (hne : x ≠ y) : (a < b) ↔ x < y := by
  obtain ⟨h1, e1⟩ := List.getElem?_eq_some_iff.1 hx
  obtain ⟨h2, e2⟩ := List.getElem?_eq_some_iff.1 hy
  rw [lt_drop j ht, List.drop_eq_getElem_cons h1, List.drop_eq_getElem_cons h2, e1, e2, lt_cons8]
  constructor
  · rintro (q | ⟨q, _⟩)
    · exact q
    · exact absurd q hne
  · exact .inl
theorem less_end {a b : List UInt8} {j : Nat} (ht : a.take j = b.take j) (hj : j = a.length ∨ j = b.length) (h1 : j ≤ a.length) (h2 : j ≤ b.length) : (a < b) ↔ a.length < b.length := by
  rw [lt_drop j ht]
  rcases hj with e | e
  · rw [List.drop_eq_nil_of_le (by omega)]
    by_cases h : a.length < b.length
    · obtain ⟨x, hx⟩ : ∃ x, b[j]? = some x := ⟨_, List.getElem?_eq_getElem (by omega)⟩
      obtain ⟨h3, e3⟩ := List.getElem?_eq_some_iff.1 hx
      rw [List.drop_eq_getElem_cons h3]
      exact ⟨fun _ => h, fun _ => List.nil_lt_cons _ _⟩
    · rw [List.drop_eq_nil_of_le (by omega)]
      simp [h]
  · have e0 : b.drop j = [] := List.drop_eq_nil_of_le (by omega)
    have : ¬ a.length < b.length := by omega
    rw [e0]
    simp [this]
theorem take_next {a b : List UInt8} {j : Nat} {x : UInt8} (ht : a.take j = b.take j) (hx : a[j]? = some x) (hy : b[j]? = some x) : a.take (j + 1) = b.take (j + 1) := by
  rw [List.take_add_one, List.take_add_one, ht, hx, hy]

theorem cmpS_at {a b : List UInt8} {j : Nat} {x y : UInt8} (ht : a.take j = b.take j) (hx : a[j]? = some x) (hy : b[j]? = some y) (hne : x ≠ y) : cmpS a b = if x < y then -1 else 1 := by
  unfold cmpS
  have h1 := less_at ht hx hy hne
  have h2 := less_at ht.symm hy hx (fun e => hne e.symm)
  by_cases h : x < y
  · rw [if_pos (h1.2 h), if_pos h]
  · have h' : y < x := by
      have e1 : ¬ x.toNat < y.toNat := fun q => h (UInt8.lt_iff_toNat_lt.2 q)
      have e2 : x.toNat ≠ y.toNat := fun q => hne (UInt8.toNat_inj.1 q)
      exact UInt8.lt_iff_toNat_lt.2 (by omega)
    rw [if_neg (fun q => h (h1.1 q)), if_pos (h2.2 h'), if_neg h]
theorem cmpS_end {a b : List UInt8} {j : Nat} (ht : a.take j = b.take j) (hj : j = a.length ∨ j = b.length) (h1 : j ≤ a.length) (h2 : j ≤ b.length) : cmpS a b = cmpI (a.length : Nat) (b.length : Nat) := by
  unfold cmpS cmpI
  have e1 := less_end ht hj h1 h2
  have e2 := less_end ht.symm (hj.elim .inr .inl) h2 h1
  simp only [e1, e2, Int.ofNat_lt]

end Go.Proofs.YthahgablbdfodaaDoor
/- What package value's Order says; two blocks of five cells. -/
set_option maxRecDepth 100000
namespace Go.Proofs.YthahgablbdfodaaDoor
open Go.RowKit Go.Lat Go.Lib

theorem soundV_ok {x : Vl} (h : x.ok) : (soundV x).ok := by
  unfold soundV
  split
  · exact h
  · exact mkE_ok 3
def ord2 (a b : Vl) : Int :=
  if a.k ≠ b.k then cmpI a.k b.k else if a.k = 1 then cmpI a.n b.n else if a.k = 2 then cmpS (lowS a.t) (lowS b.t) else (if a.b then 1 else 0) - (if b.b then 1 else 0)
/-- Which of two values comes first, or the error. -/
def orderV (x y : Vl) : Int × Int :=
  if (soundV x).k = 4 then (0, (soundV x).f) else if (soundV y).k = 4 then (0, (soundV y).f) else (ord2 (besideV (soundV x) (soundV y)) (besideV (soundV y) (soundV x)), 0)
abbrev OrdPost (w : World) (p : Int × Int) : Ending → World → Prop := fun e w' => e = .returned (.tuple #[.int .i64 p.1, .int .i64 p.2]) ∧ Upd w w' (fun _ => False)
noncomputable def ordC1 : Code := match Tryd.f6.body with
  | some (.seq _ (.seq _ c)) => c
  | _ => .skip
noncomputable def ordR8 : Code := match ordC1 with
  | .seq _ (.seq r _) => r
  | _ => .skip
/-- The code behind the loop. -/
noncomputable def ordC3 : Code := match ordC1 with
  | .seq _ c => c
  | _ => .skip
noncomputable def ordC2 : Code := match ordC1 with
  | .seq _ (.seq _ c) => c
  | _ => .skip
abbrev set5 (W : World) (g : Nat) (v0 v1 v2 v3 v4 : Value) : World := ((((W.setCell ⟨g, 0, none⟩ v0).setCell ⟨g, 1, none⟩ v1).setCell ⟨g, 2, none⟩ v2).setCell ⟨g, 3, none⟩ v3).setCell ⟨g, 4, none⟩ v4
theorem set5_upd (W : World) (g : Nat) (v0 v1 v2 v3 v4 : Value) : Upd W (set5 W g v0 v1 v2 v3 v4) (fun k => k = g) :=
  (((((Upd.refl W (fun k => k = g)).setCell ⟨g, 0, none⟩ v0 (.inr rfl)).setCell ⟨g, 1, none⟩ v1 (.inr rfl)).setCell ⟨g, 2, none⟩ v2 (.inr rfl)).setCell ⟨g, 3, none⟩ v3 (.inr rfl)).setCell ⟨g, 4, none⟩ v4 (.inr rfl)
/-- Both blocks are stored into. -/
theorem set_two {W : World} {g h : Nat} {x y : Vl} (hg : W.heap[g]? = some (.cells x.cs 28 (0, 0))) (hh : W.heap[h]? = some (.cells y.cs 28 (0, 0))) (hne : g ≠ h) (a b : Vl) :
    (set5 (set5 W g (.int .i64 a.k) (.int .i64 a.n) (.string ⟨a.t.toArray⟩) (.bool a.b) (.int .i64 a.f)) h (.int .i64 b.k) (.int .i64 b.n) (.string ⟨b.t.toArray⟩) (.bool b.b) (.int .i64 b.f)).heap[g]? = some (.cells a.cs 28 (0, 0)) ∧
    (set5 (set5 W g (.int .i64 a.k) (.int .i64 a.n) (.string ⟨a.t.toArray⟩) (.bool a.b) (.int .i64 a.f)) h (.int .i64 b.k) (.int .i64 b.n) (.string ⟨b.t.toArray⟩) (.bool b.b) (.int .i64 b.f)).heap[h]? = some (.cells b.cs 28 (0, 0)) ∧
    Upd W (set5 (set5 W g (.int .i64 a.k) (.int .i64 a.n) (.string ⟨a.t.toArray⟩) (.bool a.b) (.int .i64 a.f)) h (.int .i64 b.k) (.int .i64 b.n) (.string ⟨b.t.toArray⟩) (.bool b.b) (.int .i64 b.f)) (fun k => k = g ∨ k = h) := by
  have u1 := set5_upd W g (.int .i64 a.k) (.int .i64 a.n) (.string ⟨a.t.toArray⟩) (.bool a.b) (.int .i64 a.f)
  have u2 := set5_upd (set5 W g (.int .i64 a.k) (.int .i64 a.n) (.string ⟨a.t.toArray⟩) (.bool a.b) (.int .i64 a.f)) h (.int .i64 b.k) (.int .i64 b.n) (.string ⟨b.t.toArray⟩) (.bool b.b) (.int .i64 b.f)
  have h1 := u1.get hh (fun e => hne e.symm)
  exact ⟨u2.get (block5 hg _ _ _ _ _) hne, block5 h1 _ _ _ _ _, (u1.weaken (fun _ _ e => .inl e)).then u2 (fun _ _ e => .inr e)⟩
end Go.Proofs.YthahgablbdfodaaDoor
/- Order behind both 'beside'. -/
set_option maxRecDepth 1000000
namespace Go.Proofs.YthahgablbdfodaaDoor
open Go.RowKit Go.Lat Go.Lib

set_option maxHeartbeats 1600000 in
theorem ord_b2 (w W : World) (X1 X2 : Nat) (a b : Vl) (z1 : W.heap[X1]? = some (.cells a.cs 28 (0, 0))) (z2 : W.heap[X2]? = some (.cells b.cs 28 (0, 0))) (u : Upd w W (fun _ => False)) (la : a.t.length ≤ 1000000) (lb : b.t.length ≤ 1000000) (c0 c1 c4 c5 c6 c7 c8 c9 c10 c11 c12 c13 c14 c15 c16 c17 c18 c19 c20 c21 c22 c23 c24 c25 c26 c27 c28 c29 c30 c31 c32 c33 c34 c35 c36 c37 c38 c39 c40 c41 c42 c43 c44 c45 c46 c47 c48 c49 c50 c51 c52 c53 c54 c55 c56 c57 c58 c59 c60 c61 c62 c63 c64 c65 c66 c67 : Value) :
    Code.wp Tryd.prog ordC2 (bodyPost Tryd.prog Tryd.f6 (OrdPost w (ord2 a b, 0))) ⟨#[c0, c1, .pointer (some ⟨X1, 0, none⟩), .pointer (some ⟨X2, 0, none⟩), c4, c5, c6, c7, c8, c9, c10, c11, c12, c13, c14, c15, c16, c17, c18, c19, c20, c21, c22, c23, c24, c25, c26, c27, c28, c29, c30, c31, c32, c33, c34, c35, c36, c37, c38, c39, c40, c41, c42, c43, c44, c45, c46, c47, c48, c49, c50, c51, c52, c53, c54, c55, c56, c57, c58, c59, c60, c61, c62, c63, c64, c65, c66, c67], []⟩ W := by
  obtain ⟨c0, c1, c2, c3, c4⟩ := cells5 z1
  obtain ⟨e0, e1, e2, e3, e4⟩ := cells5 z2
  have l1 := lt_at z1
  have l2 := lt_at z2
  have Z1 := hide z1
  have Z2 := hide z2
  have HU := hide u
  obtain ⟨ak, an, at', ab, af⟩ := a
  obtain ⟨bk, bn, bt, bb, bf⟩ := b
  simp only at la lb c0 c1 c2 c3 c4 e0 e1 e2 e3 e4
  unfold ord2
  simp only
  have CK := fun w => CompareK_any w ak bk
  have CN := fun w => CompareN_any w an bn
  have LA := fun w => Lower_any w at' la
  have LB := fun w => Lower_any w bt lb
  have CS := fun w => CompareS_any w (lowS at') (lowS bt)
  have RA := fun w => rank_any w ab
  have RB := fun w => rank_any w bb
  clear z1 z2 u
  conv => arg 2; whnf
  by_cases hk : ak = bk
  · subst hk
    have k0 : (ak != ak) = false := by simp
    simp only [ne_eq, not_true_eq_false, if_false]
    by_cases h1 : ak = 1
    · subst h1
      rw [if_pos rfl]
      obtain ⟨R, hR⟩ : ∃ R, cmpI an bn = R := ⟨_, rfl⟩
      rw [hR] at CN ⊢
      clear hR
      go_wp2_with (go_at_call 16; refine Calls.mono (CN _) ?_; rintro e w' ⟨rfl, hw⟩; replace hw := hw.symm; subst hw)
      go_ret2
      exact ⟨rfl, HU.out⟩
    · have b1 : (ak == 1) = false := by simpa using h1
      rw [if_neg h1]
      by_cases h2 : ak = 2
      · subst h2
        rw [if_pos rfl]
        obtain ⟨R, hR⟩ : ∃ R, cmpS (lowS at') (lowS bt) = R := ⟨_, rfl⟩
        rw [hR] at CS ⊢
        obtain ⟨sa, hsa⟩ : ∃ s, lowS at' = s := ⟨_, rfl⟩
        obtain ⟨sb, hsb⟩ : ∃ s, lowS bt = s := ⟨_, rfl⟩
        rw [hsa] at LA CS
        rw [hsb] at LB CS
        clear hR h1 hsa hsb
        go_wp2_with fail
        go_region_law (go_simp; first
          | (go_at_call 18; refine Calls.mono (LA _) ?_; rintro e w3 ⟨rfl, u3⟩
             have y1 := u3.get Z1.out id
             have y2 := u3.get Z2.out id
             have d2 := (cells5 y2).2.2.1
             have m2 := lt_at y2
             have HU3 := hide u3
             clear y1 y2 u3)
          | (go_at_call 18; refine Calls.mono (LB _) ?_; rintro e w4 ⟨rfl, u4⟩
             have HU4 := hide u4
             clear u4)
          | (go_at_call 17; refine Calls.mono (CS _) ?_; rintro e w' ⟨rfl, hw⟩; replace hw := hw.symm; subst hw))
        all_goals go_wp2_with fail
        all_goals go_ret2
        all_goals exact ⟨rfl, ((HU.out.drew).then HU3.out (fun _ _ => id)).then HU4.out (fun _ _ => id)⟩
      · have b2 : (ak == 2) = false := by simpa using h2
        rw [if_neg h2]
        obtain ⟨ra, hra⟩ : ∃ r : Int, (if ab = true then 1 else 0) = r := ⟨_, rfl⟩
        obtain ⟨rb, hrb⟩ : ∃ r : Int, (if bb = true then 1 else 0) = r := ⟨_, rfl⟩
        have hwr : IntKind.i64.wrap (ra - rb) = ra - rb := IntWalk.i64_in _ (by rw [← hra, ← hrb]; split <;> split <;> omega)
        rw [hra] at RA ⊢
        rw [hrb] at RB ⊢
        clear hra hrb h1 h2
        go_wp2_with fail
        go_region_law (go_simp; first
          | (go_at_call 19; refine Calls.mono (RA _) ?_; rintro e w' ⟨rfl, hw⟩; replace hw := hw.symm; subst hw)
          | (go_at_call 19; refine Calls.mono (RB _) ?_; rintro e w' ⟨rfl, hw⟩; replace hw := hw.symm; subst hw))
        all_goals go_wp2_with fail
        all_goals go_ret2
        all_goals exact ⟨rfl, HU.out.drew⟩
  · have k0 : (ak != bk) = true := by simpa using hk
    have k1 : (ak == bk) = false := by simpa using hk
    simp only [ne_eq, hk, not_false_eq_true, if_true]
    obtain ⟨R, hR⟩ : ∃ R, cmpI ak bk = R := ⟨_, rfl⟩
    rw [hR] at CK ⊢
    clear hR hk
    go_wp2_with (go_at_call 15; refine Calls.mono (CK _) ?_; rintro e w' ⟨rfl, hw⟩; replace hw := hw.symm; subst hw)
    go_ret2
    exact ⟨rfl, HU.out⟩
end Go.Proofs.YthahgablbdfodaaDoor
/- Order: the statement with both 'beside' (some minutes: many orders). -/
set_option maxRecDepth 1000000
namespace Go.Proofs.YthahgablbdfodaaDoor
open Go.RowKit Go.Lat Go.Lib

theorem beside_t {x y : Vl} {n : Nat} (h : x.t.length ≤ n) : (besideV x y).t.length ≤ n := by
  unfold besideV
  split
  · exact Nat.zero_le _
  · exact h
set_option maxHeartbeats 12800000 in
theorem ord_b3 (w W : World) (X1 X2 : Nat) (hne : X1 ≠ X2) (g1 : w.heap.size ≤ X1) (g2 : w.heap.size ≤ X2) (a b : Vl) (z1 : W.heap[X1]? = some (.cells a.cs 28 (0, 0))) (z2 : W.heap[X2]? = some (.cells b.cs 28 (0, 0))) (u : Upd w W (fun _ => False)) (la : a.t.length ≤ 1000000) (lb : b.t.length ≤ 1000000) (c0 c1 c4 c5 c6 c7 c8 c9 c10 c11 c12 c13 c14 c15 c16 c17 c18 c19 c20 c21 c22 c23 c24 c25 c26 c27 c28 c29 c30 c31 c32 c33 c34 c35 c36 c37 c38 c39 c40 c41 c42 c43 c44 c45 c46 c47 c48 c49 c50 c51 c52 c53 c54 c55 c56 c57 c58 c59 c60 c61 c62 c63 c64 c65 c66 c67 : Value) (K : Act → World → Prop) (hK : ∀ a' w', Code.wp Tryd.prog ordC2 (bodyPost Tryd.prog Tryd.f6 (OrdPost w (ord2 (besideV a b) (besideV b a), 0))) a' w' → K a' w') :
    Code.wp Tryd.prog ordR8 (Exit.then K (bodyPost Tryd.prog Tryd.f6 (OrdPost w (ord2 (besideV a b) (besideV b a), 0)))) ⟨#[c0, c1, .pointer (some ⟨X1, 0, none⟩), .pointer (some ⟨X2, 0, none⟩), c4, c5, c6, c7, c8, c9, c10, c11, c12, c13, c14, c15, c16, c17, c18, c19, c20, c21, c22, c23, c24, c25, c26, c27, c28, c29, c30, c31, c32, c33, c34, c35, c36, c37, c38, c39, c40, c41, c42, c43, c44, c45, c46, c47, c48, c49, c50, c51, c52, c53, c54, c55, c56, c57, c58, c59, c60, c61, c62, c63, c64, c65, c66, c67], []⟩ W := by
  obtain ⟨c0, c1, c2, c3, c4⟩ := cells5 z1
  obtain ⟨e0, e1, e2, e3, e4⟩ := cells5 z2
  have l1 := lt_at z1
  have l2 := lt_at z2
  have BA := fun w => beside_any w a b
  have BB := fun w => beside_any w b a
  have HLA := hide (beside_t (y := b) la)
  have HLB := hide (beside_t (y := a) lb)
  have Y1 := hide z1
  have Y2 := hide z2
  have HU := hide u
  have HNE := hide hne
  have hne2 : ¬ X2 = X1 := fun e => hne e.symm
  have HG1 := hide g1
  have HG2 := hide g2
  clear z1 z2 u la lb g1 g2
  obtain ⟨a', ha'⟩ : ∃ v, besideV a b = v := ⟨_, rfl⟩
  obtain ⟨b', hb'⟩ : ∃ v, besideV b a = v := ⟨_, rfl⟩
  have HK := hide hK
  clear hK
  rw [ha'] at BA HLA HK ⊢
  rw [hb'] at BB HLB HK ⊢
  obtain ⟨ak, an, at', ab, af⟩ := a
  obtain ⟨bk, bn, bt, bb, bf⟩ := b
  obtain ⟨ak2, an2, at2, ab2, af2⟩ := a'
  obtain ⟨bk2, bn2, bt2, bb2, bf2⟩ := b'
  unfold Vl.val at BA BB
  simp only at BA BB c0 c1 c2 c3 c4 e0 e1 e2 e3 e4
  clear ha' hb'
  conv => arg 2; whnf
  dsimp only
  go_wp2_with fail
  go_region_law (go_simp; first
    | (go_at_call 14; refine Calls.mono (BA _) ?_; rintro e w3 ⟨rfl, u3⟩
       have z1 := u3.get Y1.out id
       have z2 := u3.get Y2.out id
       obtain ⟨c0, c1, c2, c3, c4⟩ := cells5 z1
       obtain ⟨e0, e1, e2, e3, e4⟩ := cells5 z2
       have l1 := lt_at z1
       have l2 := lt_at z2
       have X3 := hide z1
       have X4 := hide z2
       have HU3 := hide u3
       clear z1 z2 u3 BA)
    | (go_at_call 14; refine Calls.mono (BB _) ?_; rintro e w4 ⟨rfl, u4⟩
       have z1 := u4.get X3.out id
       have z2 := u4.get X4.out id
       clear c0 c1 c2 c3 c4 e0 e1 e2 e3 e4 l1 l2
       obtain ⟨c0, c1, c2, c3, c4⟩ := cells5 z1
       obtain ⟨e0, e1, e2, e3, e4⟩ := cells5 z2
       have l1 := lt_at z1
       have l2 := lt_at z2
       have f10 := free_at z1 0
       have f11 := free_at z1 1
       have f12 := free_at z1 2
       have f13 := free_at z1 3
       have f14 := free_at z1 4
       have f20 := free_at z2 0
       have f21 := free_at z2 1
       have f22 := free_at z2 2
       have f23 := free_at z2 3
       have f24 := free_at z2 4
       have X5 := hide z1
       have X6 := hide z2
       have HU4 := hide u4
       clear z1 z2 u4))
  all_goals (
    refine HK.out _ _ ?_
    obtain ⟨q1, q2, q3⟩ := set_two X5.out X6.out HNE.out ⟨ak2, an2, at2, ab2, af2⟩ ⟨bk2, bn2, bt2, bb2, bf2⟩
    exact ord_b2 w _ X1 X2 _ _ q1 q2 ((((HU.out.drew).then HU3.out (fun _ _ => id)).then HU4.out (fun _ _ => id)).then q3 (fun i hi e => by have := HG1.out; have := HG2.out; omega)) HLA.out HLB.out _ _ _ _ _ _ _ _ _ _ _ _ _ _ _ _ _ _ _ _ _ _ _ _ _ _ _ _ _ _ _ _ _ _ _ _ _ _ _ _ _ _ _ _ _ _ _ _ _ _ _ _ _ _ _ _ _ _ _ _ _ _ _ _ _ _)
end Go.Proofs.YthahgablbdfodaaDoor
/- Order behind both 'sound'. -/
set_option maxRecDepth 1000000
namespace Go.Proofs.YthahgablbdfodaaDoor
open Go.RowKit Go.Lat Go.Lib

set_option maxHeartbeats 3200000 in
theorem ord_b1 (w W : World) (X1 X2 : Nat) (hne : X1 ≠ X2) (g1 : w.heap.size ≤ X1) (g2 : w.heap.size ≤ X2) (a b : Vl) (z1 : W.heap[X1]? = some (.cells a.cs 28 (0, 0))) (z2 : W.heap[X2]? = some (.cells b.cs 28 (0, 0))) (u : Upd w W (fun _ => False)) (la : a.t.length ≤ 1000000) (lb : b.t.length ≤ 1000000) (c0 c1 c4 c5 c6 c7 c8 c9 c10 c11 c12 c13 c14 c15 c16 c17 c18 c19 c20 c21 c22 c23 c24 c25 c26 c27 c28 c29 c30 c31 c32 c33 c34 c35 c36 c37 c38 c39 c40 c41 c42 c43 c44 c45 c46 c47 c48 c49 c50 c51 c52 c53 c54 c55 c56 c57 c58 c59 c60 c61 c62 c63 c64 c65 c66 c67 : Value) :
    Code.wp Tryd.prog ordC1 (bodyPost Tryd.prog Tryd.f6 (OrdPost w (if a.k = 4 then (0, a.f) else if b.k = 4 then (0, b.f) else (ord2 (besideV a b) (besideV b a), 0)))) ⟨#[c0, c1, .pointer (some ⟨X1, 0, none⟩), .pointer (some ⟨X2, 0, none⟩), c4, c5, c6, c7, c8, c9, c10, c11, c12, c13, c14, c15, c16, c17, c18, c19, c20, c21, c22, c23, c24, c25, c26, c27, c28, c29, c30, c31, c32, c33, c34, c35, c36, c37, c38, c39, c40, c41, c42, c43, c44, c45, c46, c47, c48, c49, c50, c51, c52, c53, c54, c55, c56, c57, c58, c59, c60, c61, c62, c63, c64, c65, c66, c67], []⟩ W := by
  obtain ⟨c0, c1, c2, c3, c4⟩ := cells5 z1
  obtain ⟨e0, e1, e2, e3, e4⟩ := cells5 z2
  have l1 := lt_at z1
  have l2 := lt_at z2
  have Z1 := hide z1
  have Z2 := hide z2
  have HU := hide u
  have I0 : ∀ w, (Instr.index 45 (.agg #[.int .i64 a.k, .int .i64 a.n, enS a.t, .bool a.b, .int .i64 a.f, .int .i64 b.k, .int .i64 b.n, enS b.t, .bool b.b, .int .i64 b.f]) (.int .i64 0)).run Tryd.prog w = .ok (.agg #[.int .i64 a.k, .int .i64 a.n, enS a.t, .bool a.b, .int .i64 a.f]) w := fun _ => by kernel_rfl
  have I1 : ∀ w, (Instr.index 45 (.agg #[.int .i64 a.k, .int .i64 a.n, enS a.t, .bool a.b, .int .i64 a.f, .int .i64 b.k, .int .i64 b.n, enS b.t, .bool b.b, .int .i64 b.f]) (.int .i64 1)).run Tryd.prog w = .ok (.agg #[.int .i64 b.k, .int .i64 b.n, enS b.t, .bool b.b, .int .i64 b.f]) w := fun _ => by kernel_rfl
  have HLT := hide (And.intro la lb)
  clear z1 z2 u la lb
  by_cases h4 : a.k = 4
  · rw [if_pos h4]
    obtain ⟨ak, an, at', ab, af⟩ := a
    obtain rfl : ak = 4 := h4
    simp only at I0 I1
    conv => arg 2; whnf
    go_wp2_with fail
    refine wp_loop_rounds 1 ?_
    rw [rounds_succ]
    go_wp2_with fail
    go_quiet (fail)
    go_wp2_with fail
    go_ret2
    exact ⟨rfl, (HU.out.alloc _).drewN nq⟩
  · rw [if_neg h4]
    have b4 : (a.k == 4) = false := by simpa using h4
    by_cases h5 : b.k = 4
    · rw [if_pos h5]
      obtain ⟨ak, an, at', ab, af⟩ := a
      obtain ⟨bk, bn, bt, bb, bf⟩ := b
      obtain rfl : bk = 4 := h5
      simp only at I0 I1
      clear h4
      conv => arg 2; whnf
      go_wp2_with fail
      refine wp_loop_rounds 2 ?_
      rw [rounds_succ]
      go_wp2_with fail
      rw [rounds_succ]
      go_wp2_with fail
      go_quiet (fail)
      go_wp2_with fail
      go_ret2
      exact ⟨rfl, ((HU.out.alloc _).alloc _).drewN nq⟩
    · rw [if_neg h5]
      have b5 : (b.k == 4) = false := by simpa using h5
      obtain ⟨ak, an, at', ab, af⟩ := a
      obtain ⟨bk, bn, bt, bb, bf⟩ := b
      simp only at b4 b5 I0 I1
      have HUV := hide (((Upd.refl W (fun _ => False)).alloc (.cells (Vl.mk ak an at' ab af).cs 28)).alloc (.cells (Vl.mk bk bn bt bb bf).cs 28))
      clear h4 h5
      conv => arg 2; whnf
      go_wp2_with fail
      refine wp_loop_rounds 3 ?_
      rw [rounds_succ]
      go_wp2_with fail
      rw [rounds_succ]
      go_wp2_with fail
      rw [rounds_succ]
      go_wp2_with fail
      rename_i hK
      refine ord_b3 w _ X1 X2 hne g1 g2 ⟨ak, an, at', ab, af⟩ ⟨bk, bn, bt, bb, bf⟩ (HUV.out.get Z1.out id) (HUV.out.get Z2.out id) (HU.out.then HUV.out (fun _ _ => id)) HLT.out.1 HLT.out.2 _ _ _ _ _ _ _ _ _ _ _ _ _ _ _ _ _ _ _ _ _ _ _ _ _ _ _ _ _ _ _ _ _ _ _ _ _ _ _ _ _ _ _ _ _ _ _ _ _ _ _ _ _ _ _ _ _ _ _ _ _ _ _ _ _ _ _ hK
end Go.Proofs.YthahgablbdfodaaDoor
/- The walk of package value's Order. -/
set_option maxRecDepth 1000000
namespace Go.Proofs.YthahgablbdfodaaDoor
open Go.RowKit Go.Lat Go.Lib

theorem sound_t {x : Vl} {n : Nat} (h : x.t.length ≤ n) : (soundV x).t.length ≤ n := by
  unfold soundV
  split
  · exact h
  · exact Nat.zero_le _
set_option maxHeartbeats 6400000 in
theorem Order_any (w : World) (x y : Vl) (hx : x.ok) (hy : y.ok) (lx : x.t.length ≤ 1000000) (ly : y.t.length ≤ 1000000) : Calls Tryd.prog 6 #[x.val, y.val] w (OrdPost w (orderV x y)) := by
  have SX := fun w => sound_any w x hx
  have SY := fun w => sound_any w y hy
  have bX1 : ((w.alloc (.cells x.cs 28)).alloc (.cells y.cs 28)).heap[w.heap.size]? = some (.cells x.cs 28 (0, 0)) := block_alloc (Vnew1 w _) _
  have bX2 := Vnew2 w (.cells x.cs 28) (.cells y.cs 28)
  have HX1 := hide bX1
  have HX2 := hide bX2
  have HLX := hide (sound_t lx)
  have HLY := hide (sound_t ly)
  obtain ⟨a, ha⟩ : ∃ a, soundV x = a := ⟨_, rfl⟩
  obtain ⟨b, hb⟩ : ∃ b, soundV y = b := ⟨_, rfl⟩
  unfold orderV
  rw [ha] at SX HLX ⊢
  rw [hb] at SY HLY ⊢
  obtain ⟨xk, xn, xt, xb, xf⟩ := x
  obtain ⟨yk, yn, yt, yb, yf⟩ := y
  unfold Vl.val at SX SY ⊢
  simp only [Vl.cs] at SX SY HX1 HX2 ⊢
  obtain ⟨P, hP⟩ : ∃ P, OrdPost w (if a.k = 4 then (0, a.f) else if b.k = 4 then (0, b.f) else (ord2 (besideV a b) (besideV b a), 0)) = P := ⟨_, rfl⟩
  change Calls Tryd.prog 6 _ w (OrdPost w (if a.k = 4 then (0, a.f) else if b.k = 4 then (0, b.f) else (ord2 (besideV a b) (besideV b a), 0)))
  rw [hP]
  have HP := hide hP
  clear bX1 bX2 ha hb hx hy lx ly hP
  go_enter Tryd.func6, Tryd.ntmps6
  go_wp2_with fail
  go_region_law (go_simp; first
    | (go_at_call 13; refine Calls.mono (SX _) ?_; rintro e w2 ⟨rfl, u2⟩
       have z1 := u2.get HX1.out id
       have z2 := u2.get HX2.out id
       obtain ⟨c0, c1, c2, c3, c4⟩ := cells5 z1
       obtain ⟨e0, e1, e2, e3, e4⟩ := cells5 z2
       have l1 := lt_at z1
       have l2 := lt_at z2
       have Z1 := hide z1
       have Z2 := hide z2
       have HU2 := hide u2
       clear z1 z2 u2 SX)
    | (go_at_call 13; refine Calls.mono (SY _) ?_; rintro e w3 ⟨rfl, u3⟩
       have z1 := u3.get Z1.out id
       have z2 := u3.get Z2.out id
       clear c0 c1 c2 c3 c4 e0 e1 e2 e3 e4 l1 l2
       obtain ⟨c0, c1, c2, c3, c4⟩ := cells5 z1
       obtain ⟨e0, e1, e2, e3, e4⟩ := cells5 z2
       have l1 := lt_at z1
       have l2 := lt_at z2
       have f10 := free_at z1 0
       have f11 := free_at z1 1
       have f12 := free_at z1 2
       have f13 := free_at z1 3
       have f14 := free_at z1 4
       have f20 := free_at z2 0
       have f21 := free_at z2 1
       have f22 := free_at z2 2
       have f23 := free_at z2 3
       have f24 := free_at z2 4
       have Y1 := hide z1
       have Y2 := hide z2
       have HU3 := hide u3
       clear z1 z2 u3))
  all_goals (
    rename_i hK
    refine hK _ _ ?_
    obtain ⟨q1, q2, q3⟩ := set_two (x := ⟨xk, xn, xt, xb, xf⟩) (y := ⟨yk, yn, yt, yb, yf⟩) Y1.out Y2.out (by omega) a b
    have u0 : Upd w ((w.alloc (.cells #[.int .i64 xk, .int .i64 xn, enS xt, .bool xb, .int .i64 xf] 28)).alloc (.cells #[.int .i64 yk, .int .i64 yn, enS yt, .bool yb, .int .i64 yf] 28)) (fun _ => False) := ((Upd.refl w _).alloc _).alloc _
    rw [← HP.out]
    exact ord_b1 w _ w.heap.size (w.heap.size + 1) (by omega) (Nat.le_refl _) (by omega) a b q1 q2 ((((u0.drew).then HU2.out (fun _ _ => id)).then HU3.out (fun _ _ => id)).then q3 (fun i hi e => by omega)) HLX.out HLY.out _ _ _ _ _ _ _ _ _ _ _ _ _ _ _ _ _ _ _ _ _ _ _ _ _ _ _ _ _ _ _ _ _ _ _ _ _ _ _ _ _ _ _ _ _ _ _ _ _ _ _ _ _ _ _ _ _ _ _ _ _ _ _ _ _ _)
end Go.Proofs.YthahgablbdfodaaDoor
/- The walks of the law's values, same; of package value's truth. -/
set_option maxRecDepth 100000
namespace Go.Lat
theorem results_cell2_row {P : Program} {fn : Func} {p q : Tmp} {ty uy : TypeId} (h : fn.results = #[.cell p ty, .cell q uy]) (tmps : Array Value) (w : World) (g g2 : Nat) (t t2 : TypeId) (cs cs2 : Array Value) (fr fr2 : Nat × Nat) (d d2 : TypeDesc)
    (hp : tmps.getD p undef = .pointer (some ⟨g, 0, none⟩)) (hq : tmps.getD q undef = .pointer (some ⟨g2, 0, none⟩)) (hg : w.heap[g]? = some (.cells cs t fr)) (hg2 : w.heap[g2]? = some (.cells cs2 t2 fr2))
    (hu : P.underlying ty = some d) (hd : (match d with | .struct _ | .array _ _ => true | _ => false) = true) (hi : (P.info? ty).map (·.size) = some cs.size)
    (hu2 : P.underlying uy = some d2) (hd2 : (match d2 with | .struct _ | .array _ _ => true | _ => false) = true) (hi2 : (P.info? uy).map (·.size) = some cs2.size) :
    (results fn tmps).run P w = .ok (.tuple #[.agg cs, .agg cs2]) w := by
  have hp' : tmps[p]?.getD undef = .pointer (some ⟨g, 0, none⟩) := by simpa using hp
  have hq' : tmps[q]?.getD undef = .pointer (some ⟨g2, 0, none⟩) := by simpa using hq
  simp [results, h, hp', hq', asAddr, run_loadVar_row w g t ty cs fr d hg hu hd hi, run_loadVar_row w g2 t2 uy cs2 fr2 d2 hg2 hu2 hd2 hi2, Result.andThen]
theorem results_cell_tmp_row {P : Program} {fn : Func} {p q : Tmp} {ty : TypeId} (h : fn.results = #[.cell p ty, .tmp q]) (tmps : Array Value) (w : World) (g : Nat) (t : TypeId) (cs : Array Value) (fr : Nat × Nat) (d : TypeDesc)
    (hp : tmps.getD p undef = .pointer (some ⟨g, 0, none⟩)) (hg : w.heap[g]? = some (.cells cs t fr))
    (hu : P.underlying ty = some d) (hd : (match d with | .struct _ | .array _ _ => true | _ => false) = true) (hi : (P.info? ty).map (·.size) = some cs.size) :
    (results fn tmps).run P w = .ok (.tuple #[.agg cs, tmps.getD q undef]) w := by
  have hp' : tmps[p]?.getD undef = .pointer (some ⟨g, 0, none⟩) := by simpa using hp
  simp [results, h, hp', asAddr, run_loadVar_row w g t ty cs fr d hg hu hd hi, Result.andThen]
end Go.Lat
namespace Go.Proofs.YthahgablbdfodaaDoor
open Go.RowKit Go.Lat Go.Lib

theorem cut300 (l : List UInt8) : (⟨l.toArray⟩ : ByteArray).extract 0 (min (l.length : Int) 300).toNat = ⟨(l.take 300).toArray⟩ := by
  apply ByteArray.ext
  apply Array.ext'
  have e : (min (l.length : Int) 300).toNat = min l.length 300 := by omega
  rw [e, ByteArray.data_extract]
  simp only [Array.toList_extract, List.extract_eq_take_drop, Nat.sub_zero, List.drop_zero]
  rw [Nat.min_comm, ← List.take_eq_take_min]
/-- A value with its text cut. -/
def cutV (x : Vl) : Vl := ⟨x.k, x.n, x.t.take 300, x.b, x.f⟩

set_option maxHeartbeats 1600000 in
theorem values_any (w : World) (k n : Int) (t ct : List UInt8) (b : Bool) (f : Int) (hct : t.take 300 = ct) : Calls Tryd.prog 5 #[.agg #[.int .i64 k, .int .i64 n, enS t, .bool b, .int .i64 f]] w fun e w' =>
    e = .returned (.tuple #[.agg #[.int .i64 k, .int .i64 n, enS ct, .bool b, .int .i64 f], .agg #[.int .i64 k, .int .i64 n, enS ct, .bool b, .int .i64 f]]) ∧ Upd w w' (fun _ => False) := by
  have n2 : ∀ (A B C : Obj), (((w.alloc A).alloc B).alloc C).heap[w.heap.size + 1]? = some B := fun A B C => block_alloc (Vnew2 w A B) C
  have n3 : ∀ (A B C : Obj), (((w.alloc A).alloc B).alloc C).heap[w.heap.size + 1 + 1]? = some C := fun A B C => by
    have := Vnew2 (w.alloc A) B C
    simpa using this
  have N2 := hide n2
  have N3 := hide n3
  have HC := hide hct
  clear n2 n3 hct
  go_enter Tryd.func5, Tryd.ntmps5
  go_wp2_with fail
  simp only [cut300, HC.out]
  go_wp2_with fail
  go_region_held3 (fun w' => w'.cell? ⟨w.heap.size, 0, none⟩ = some (.int .i64 k) ∧ w'.cell? ⟨w.heap.size, 1, none⟩ = some (.int .i64 n) ∧ w'.cell? ⟨w.heap.size, 2, none⟩ = some (.string ⟨ct.toArray⟩) ∧ w'.cell? ⟨w.heap.size, 3, none⟩ = some (.bool b) ∧ w'.cell? ⟨w.heap.size, 4, none⟩ = some (.int .i64 f)) (go_keep) (fail)
  go_wp2_with fail
  (try simp only [Exit.inBlock, Exit.then])
  refine bodyPost_ret (results_cell2_row rfl _ _ (w.heap.size + 1) (w.heap.size + 1 + 1) _ _ _ _ _ _ _ _ rfl rfl (N2.out _ _ _) (N3.out _ _ _) Tryd.underlying28 rfl (by kernel_rfl) Tryd.underlying29 rfl (by kernel_rfl)) rfl ?_
  exact ⟨rfl, ((((Upd.refl w _).alloc _).alloc _).alloc _).drew⟩
end Go.Proofs.YthahgablbdfodaaDoor
/- The signs of errors; the walks of package value's Fail.Text, truth. -/
set_option maxRecDepth 100000
namespace Go.Proofs.YthahgablbdfodaaDoor
open Go.RowKit Go.Lat Go.Lib

def signL : List (List UInt8) := [[], [35, 68, 73, 86, 47, 48, 33], [35, 78, 85, 77, 33], [35, 86, 65, 76, 85, 69, 33], [35, 82, 69, 70, 33], [35, 78, 65, 77, 69, 63], [35, 78, 47, 65], [35, 67, 89, 67, 76, 69, 33], [35, 76, 73, 78, 75, 33]]
/-- The table of the errors in signs lies in the world. -/
def Sig (w : World) : Prop := 0 < w.heap.size ∧ ∀ (f : Nat) (x : List UInt8), signL[f]? = some x → w.cell? ⟨0, f, none⟩ = some (enS x)
theorem Sig.upd {w w' : World} {S : Nat → Prop} (h : Sig w) (u : Upd w w' S) (hn : ¬ S 0) : Sig w' :=
  ⟨Nat.lt_of_lt_of_le h.1 u.size, fun f x hx => (u.cell _ f h.1 hn).trans (h.2 f x hx)⟩
/-- An error in signs. -/
def signT (f : Int) : List UInt8 := if okFail f then signL.getD f.toNat [] else []
theorem FailText_any (w : World) (hs : Sig w) (f : Int) : Calls Tryd.prog 28 #[.int .i64 f] w fun e w' => e = .returned (enS (signT f)) ∧ w' = w := by
  have I := fun w => is_any w f
  unfold signT
  cases h : okFail f with
  | false =>
    rw [h] at I
    simp only [Bool.false_eq_true, if_false]
    clear h hs
    go_enter Tryd.func28, Tryd.ntmps28
    go_wp2_with fail
    refine Calls.mono (I _) ?_
    rintro e w1 ⟨rfl, rfl⟩
    go_wp2_with fail
    go_ret
    exact ⟨rfl, rfl⟩
  | true =>
    rw [h] at I
    simp only [if_true]
    have hf : 0 < f ∧ f < 9 := by simpa [okFail] using h
    obtain ⟨k, rfl⟩ : ∃ k : Nat, f = (k : Int) := ⟨f.toNat, by omega⟩
    have hk : k < signL.length := by have := hf.2; simp [signL]; omega
    obtain ⟨x, hx⟩ : ∃ x, signL[k]? = some x := ⟨_, List.getElem?_eq_getElem hk⟩
    have c0 := hs.2 k x hx
    have hgx : signL.getD (k : Int).toNat [] = x := by
      simp only [Int.toNat_natCast, List.getD]
      rw [hx]
      rfl
    have k0 : (0 : Int) ≤ (k : Int) := by omega
    have k1 : (k : Int) < 9 := hf.2
    rw [hgx]
    have HG := hide hs.1
    clear h hs hf hk hx hgx
    go_enter Tryd.func28, Tryd.ntmps28
    go_wp2_with fail
    refine Calls.mono (I _) ?_
    rintro e w1 ⟨rfl, rfl⟩
    go_wp2_with fail
    go_ret
    exact ⟨rfl, rfl⟩

def tTrue : List UInt8 := [84, 82, 85, 69]
def tFalse : List UInt8 := [70, 65, 76, 83, 69]
/-- Does a word say true, or false? -/
def truthV (s : List UInt8) : Bool × Bool := if upS s = tTrue then (true, true) else if upS s = tFalse then (false, true) else (false, false)
theorem truth_any (w : World) (s : List UInt8) (hs : s.length ≤ 1000000) : Calls Tryd.prog 27 #[enS s] w fun e w' => e = .returned (.tuple #[.bool (truthV s).1, .bool (truthV s).2]) ∧ Upd w w' (fun _ => False) := by
  have U := fun w => Upper_any w s hs
  unfold truthV
  obtain ⟨z, hz⟩ : ∃ z, upS s = z := ⟨_, rfl⟩
  rw [hz] at U ⊢
  clear hz
  by_cases h1 : z = tTrue
  · subst h1
    rw [if_pos rfl]
    unfold tTrue at U
    go_enter Tryd.func27, Tryd.ntmps27
    go_wp2_with fail
    refine Calls.mono (U _) ?_
    rintro e w1 ⟨rfl, u1⟩
    go_wp2_with fail
    go_ret2
    exact ⟨rfl, u1⟩
  · rw [if_neg h1]
    have b1 : (z == [84, 82, 85, 69]) = false := by simpa [tTrue] using h1
    by_cases h2 : z = tFalse
    · subst h2
      rw [if_pos rfl]
      unfold tFalse at U b1
      clear h1
      go_enter Tryd.func27, Tryd.ntmps27
      go_wp2_with fail
      refine Calls.mono (U _) ?_
      rintro e w1 ⟨rfl, u1⟩
      go_wp2_with fail
      go_ret2
      exact ⟨rfl, u1⟩
    · rw [if_neg h2]
      have b2 : (z == [70, 65, 76, 83, 69]) = false := by simpa [tFalse] using h2
      clear h1 h2
      go_enter Tryd.func27, Tryd.ntmps27
      go_wp2_with fail
      refine Calls.mono (U _) ?_
      rintro e w1 ⟨rfl, u1⟩
      go_wp2_with fail
      go_ret2
      exact ⟨rfl, u1⟩
end Go.Proofs.YthahgablbdfodaaDoor
