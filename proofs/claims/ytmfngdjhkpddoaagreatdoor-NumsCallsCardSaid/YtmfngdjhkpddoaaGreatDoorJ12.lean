/- Bytes of a text in a row of its own; the walks of package value's letters, Lower, Upper. -/
import Derived.Test.YtmfngdjhkpddoaaGreatDoorJ11
import Derived.Lib.ConvBytes
import Derived.Laws.IdiomStrings
import Derived.Lib.AtoiErrMem
/- Bytes of a text in a row of its own; the walks of package value's letters, Lower, Upper. -/
set_option maxRecDepth 100000
namespace Go.Proofs.YtmfngdjhkpddoaaGreatDoor
open Go.RowKit Go.Lat Go.Lib

/-- A row of bytes. -/
def Buf (w : World) (g : Nat) (l : List UInt8) : Prop := ∃ cs t fr, w.heap[g]? = some (.cells cs t fr) ∧ l.length ≤ cs.size ∧ (∀ (j : Nat) (x : UInt8), l[j]? = some x → cs[j]? = some (Value.int .u8 (x.toNat : Int))) ∧ l.length ≤ fr.1
theorem Buf.lt {w : World} {g : Nat} {l : List UInt8} (h : Buf w g l) : g < w.heap.size := by
  obtain ⟨cs, t, fr, h1, _⟩ := h
  exact lt_at h1
theorem Buf.cell {w : World} {g : Nat} {l : List UInt8} (h : Buf w g l) {j : Nat} {x : UInt8} (hj : l[j]? = some x) : w.cell? ⟨g, j, none⟩ = some (Value.int .u8 (x.toNat : Int)) := by
  obtain ⟨cs, t, fr, h1, h2, h3, h4⟩ := h
  rw [cell_of_row w g j cs t fr h1]
  exact h3 j x hj
theorem Buf.free {w : World} {g : Nat} {l : List UInt8} (h : Buf w g l) {j : Nat} (hj : j < l.length) : w.frozen? ⟨g, j, none⟩ = false := by
  obtain ⟨cs, t, ⟨lo, hi⟩, h1, h2, h3, h4⟩ := h
  simp only at h4
  simp [World.frozen?, h1]
  omega
theorem Buf.set {w : World} {g : Nat} {l : List UInt8} (h : Buf w g l) {i : Nat} (hi : i < l.length) (y : UInt8) : Buf (w.setCell ⟨g, i, none⟩ (.int .u8 (y.toNat : Int))) g (l.set i y) := by
  obtain ⟨cs, t, fr, h1, h2, h3, h4⟩ := h
  refine ⟨_, t, fr, block_setCell h1 i _, by simpa using h2, fun j x hj => ?_, by simpa using h4⟩
  by_cases e : j = i
  · subst e
    have hx : x = y := by
      rw [List.getElem?_set_self hi] at hj
      exact (Option.some.inj hj).symm
    subst hx
    rw [Array.getElem?_setIfInBounds_self, if_pos (by omega)]
  · rw [List.getElem?_set_ne (fun q => e q.symm)] at hj
    rw [Array.getElem?_setIfInBounds_ne (fun q => e q.symm)]
    exact h3 j x hj
theorem Buf.made (w : World) (e : TypeId) (s : ByteArray) : Buf (bytesWorld w e s) w.heap.size s.data.toList := by
  refine ⟨_, e, _, bytesWorld_at_new w e s, ?_, fun j x hj => ?_, ?_⟩
  · rw [Array.length_toList]
    simp [bytesCells]
  · have hl : j < s.data.size := by
      have := (List.getElem?_eq_some_iff.1 hj).1
      simpa using this
    simp only [bytesCells]
    rw [Array.getElem?_append_left (by simpa using hl), Array.getElem?_map]
    rw [Array.getElem?_toList] at hj
    rw [hj]
    rfl
  · show s.data.toList.length ≤ (bytesCells w e s).size
    rw [Array.length_toList]
    simp [bytesCells]
theorem Buf.world (w : World) (e : TypeId) (s : ByteArray) : Upd w (bytesWorld w e s) (fun _ => False) := Upd.of_below (Lib.bytesWorld_below _ _ _) _
theorem Buf.back {w : World} {g : Nat} {l : List UInt8} (h : Buf w g l) (cap n : Nat) (hn : l.length = n) : (convert 153 9 (.slice (some ⟨g, 0, none⟩) n cap)).run Tryz.prog w = .ok (.string ⟨l.toArray⟩) w := by
  subst hn
  refine run_convert_bytes_back w 153 9 5 ⟨g, 0, none⟩ cap l Tryz.underlying153 Tryz.underlying5 Tryz.underlying9 (fun j hj => ?_)
  have := h.cell (List.getElem?_eq_getElem hj)
  rw [← this]
  congr 1
  unfold Addr.add
  split
  · rename_i e; rw [e]
  · simp

def lowB (c : UInt8) : UInt8 := if 65 ≤ c.toNat ∧ c.toNat < 91 then UInt8.ofNat (c.toNat + 32) else c
def upB (c : UInt8) : UInt8 := if 97 ≤ c.toNat ∧ c.toNat < 123 then UInt8.ofNat (c.toNat - 32) else c
/-- The bytes, the first i of which are turned. -/
def turned (h : UInt8 → UInt8) (i : Nat) (s : List UInt8) : List UInt8 := (s.take i).map h ++ s.drop i
theorem turned_len (h : UInt8 → UInt8) (i : Nat) (s : List UInt8) : (turned h i s).length = s.length := by
  simp [turned]
  omega
theorem turned_at {h : UInt8 → UInt8} {i : Nat} {s : List UInt8} {c : UInt8} (hc : s[i]? = some c) : (turned h i s)[i]? = some c := by
  have hl := (List.getElem?_eq_some_iff.1 hc).1
  unfold turned
  rw [List.getElem?_append_right (by simp; omega)]
  simp only [List.length_map, List.length_take, List.getElem?_drop]
  rw [← hc]
  congr 1
  omega
theorem turned_next {h : UInt8 → UInt8} {i : Nat} {s : List UInt8} {c : UInt8} (hc : s[i]? = some c) : turned h (i + 1) s = (turned h i s).set i (h c) := by
  have hl := (List.getElem?_eq_some_iff.1 hc).1
  have hg := (List.getElem?_eq_some_iff.1 hc).2
  unfold turned
  rw [List.take_add_one, hc, List.set_append_right _ _ (by simp; omega)]
  have e : i - (List.map h (List.take i s)).length = 0 := by simp; omega
  rw [e, List.drop_eq_getElem_cons hl, hg]
  simp
theorem turned_all (h : UInt8 → UInt8) (s : List UInt8) : turned h s.length s = s.map h := by simp [turned]

theorem set_same {l : List UInt8} {i : Nat} {c : UInt8} (h : l[i]? = some c) : l.set i c = l := by
  apply List.ext_getElem?
  intro j
  by_cases e : i = j
  · subst e
    rw [List.getElem?_set_self (List.getElem?_eq_some_iff.1 h).1, h]
  · rw [List.getElem?_set_ne e]
set_option maxHeartbeats 1600000 in
theorem letters_any (w : World) (s : ByteArray) (hs : s.size ≤ 1000000) (f : Nat) (d : Int) (h : UInt8 → UInt8) (hf : f + 26 ≤ 255) (hin : ∀ c : UInt8, f ≤ c.toNat → c.toNat < f + 26 → ((h c).toNat : Int) = (c.toNat : Int) + d) (hout : ∀ c : UInt8, ¬ (f ≤ c.toNat ∧ c.toNat < f + 26) → h c = c) :
    Calls Tryz.prog 131 #[.string s, .int .u8 f, .int .i64 d] w fun e w' => e = .returned (.string ⟨(s.data.toList.map h).toArray⟩) ∧ Upd w w' (fun _ => False) := by
  have KC := fun w => Lib.run_convert_string_bytes (P := Tryz.prog) w 9 153 5 s Tryz.underlying9 Tryz.underlying153 Tryz.underlying5
  have hB := Buf.made w 5 s
  have hU := Buf.world w 5 s
  obtain ⟨W, hW⟩ : ∃ W, bytesWorld w 5 s = W := ⟨_, rfl⟩
  have KW := KC w
  rw [hW] at hB hU KW
  obtain ⟨cap, hcap⟩ : ∃ cap, grownCap w s.size 0 5 = cap := ⟨_, rfl⟩
  rw [hcap] at KW
  obtain ⟨N, hN⟩ : ∃ N, s.size = N := ⟨_, rfl⟩
  have hl : s.data.toList.length = N := by rw [← hN]; exact Array.length_toList
  rw [hN] at KW hs
  obtain ⟨l, hl2⟩ : ∃ l, s.data.toList = l := ⟨_, rfl⟩
  rw [hl2] at hB hl ⊢
  have HB := hide hB
  have HU := hide hU
  have HL := hide hl
  have HIN := hide hin
  have HOUT := hide hout
  have hwf : IntKind.u8.wrap ((f : Int) + 26) = (f : Int) + 26 := by rw [IntKind.wrap_u8]; omega
  have gl := hB.lt
  clear KC hW hcap hN hB hU hl hl2 hin hout
  go_enter Tryz.func131, Tryz.ntmps131
  go_wp2_with fail
  obtain ⟨g, hg⟩ : ∃ g, w.heap.size = g := ⟨_, rfl⟩
  have HG := hide hg
  have hB0 := HB.out
  rw [hg] at hB0 gl ⊢
  have HB0 := hide hB0
  clear hg hB0 KW
  go_loopg [14] N (fun q iv wr => ∃ i : Nat, i + q = N ∧ iv = .int .i64 i ∧ Buf wr g (turned h i l) ∧ Upd w wr (fun _ => False))
  case atStart => exact ⟨0, by omega, rfl, by simpa [turned] using HB0.out, HU.out⟩
  case round =>
    obtain ⟨i, hi, rfl, hb, hu⟩ := hrel
    by_cases hiN : i < N
    · obtain ⟨c, hc⟩ : ∃ c, l[i]? = some c := ⟨_, List.getElem?_eq_getElem (by rw [HL.out]; exact hiN)⟩
      have c0 := hb.cell (turned_at (h := h) hc)
      have f0 := hb.free (j := i) (by rw [turned_len, HL.out]; exact hiN)
      have bl := hb.lt
      have hi0 : (0 : Int) ≤ (i : Int) := by omega
      have hi1 : (i : Int) < (N : Int) := by omega
      have hnx := turned_next (h := h) hc
      have hst := hb.set (i := i) (by rw [turned_len, HL.out]; exact hiN) (h c)
      rw [← hnx] at hst
      have c255 : c.toNat < 256 := c.toNat_lt
      have hg0 : w.heap.size ≤ g := Nat.le_of_eq HG.out
      have HST := hide hst
      have HBI := hide hb
      have HUI := hide hu
      have HHC := hide hc
      clear hst hb hu hnx hc
      by_cases h1 : f ≤ c.toNat
      · have d1 : decide ((f : Int) ≤ (c.toNat : Int)) = true := by simp; omega
        have d1' : decide (f ≤ c.toNat) = true := by simpa using h1
        by_cases h2 : c.toNat < f + 26
        · have d2 : decide ((c.toNat : Int) < (f : Int) + 26) = true := by simp; omega
          have hd := HIN.out c h1 h2
          have hwr : IntKind.i64.wrap ((c.toNat : Int) + d) = ((h c).toNat : Int) := by
            have := (h c).toNat_lt
            rw [← hd, IntWalk.i64_in _ (by omega)]
          have hw8 : IntKind.u8.wrap ((h c).toNat : Int) = ((h c).toNat : Int) := by
            have := (h c).toNat_lt
            rw [IntKind.wrap_u8]
            omega
          have hwi : IntKind.i64.wrap (c.toNat : Int) = (c.toNat : Int) := IntWalk.i64_in _ (by omega)
          clear h1 h2 hd
          go_wp2_with fail
          go_roundg (gk - 1)
          case measure => omega
          case rel => exact ⟨i + 1, by omega, by go_num, HST.out, HUI.out.setCell _ _ (.inl hg0)⟩
        · have d2 : decide ((c.toNat : Int) < (f : Int) + 26) = false := by simp; omega
          have ho := HOUT.out c (fun q => h2 q.2)
          have hsm : turned h (i + 1) l = turned h i l := by
            rw [turned_next HHC.out, ho]
            exact set_same (turned_at HHC.out)
          have HSM := hide hsm
          clear h1 h2 ho hsm
          go_wp2_with fail
          go_roundg (gk - 1)
          case measure => omega
          case rel => exact ⟨i + 1, by omega, by go_num, by rw [HSM.out]; exact HBI.out, HUI.out⟩
      · have d1 : decide ((f : Int) ≤ (c.toNat : Int)) = false := by simp; omega
        have d1' : decide (f ≤ c.toNat) = false := by simpa using h1
        have ho := HOUT.out c (fun q => h1 q.1)
        have hsm : turned h (i + 1) l = turned h i l := by
          rw [turned_next HHC.out, ho]
          exact set_same (turned_at HHC.out)
        have HSM := hide hsm
        clear h1 ho hsm
        go_wp2_with fail
        go_roundg (gk - 1)
        case measure => omega
        case rel => exact ⟨i + 1, by omega, by go_num, by rw [HSM.out]; exact HBI.out, HUI.out⟩
    · have hi1 : ¬ (i : Int) < (N : Int) := by omega
      have hiN2 : i = l.length := by rw [HL.out]; omega
      have hb2 : Buf wr g (l.map h) := by rw [← turned_all h l, ← hiN2]; exact hb
      have KB := hb2.back cap N (by rw [List.length_map]; exact HL.out)
      have HUI := hide hu
      clear hb hu hb2 hiN2
      go_wp2_with fail
      go_ret
      exact ⟨rfl, HUI.out⟩
theorem low_in (c : UInt8) (h1 : 65 ≤ c.toNat) (h2 : c.toNat < 65 + 26) : ((lowB c).toNat : Int) = (c.toNat : Int) + 32 := by
  unfold lowB
  rw [if_pos ⟨h1, h2⟩, UInt8.toNat_ofNat']
  omega
theorem low_out (c : UInt8) (h : ¬ (65 ≤ c.toNat ∧ c.toNat < 65 + 26)) : lowB c = c := by
  unfold lowB
  rw [if_neg h]
def lowS (s : List UInt8) : List UInt8 := s.map lowB
def upS (s : List UInt8) : List UInt8 := s.map upB
theorem Lower_any (w : World) (s : List UInt8) (hs : s.length ≤ 1000000) : Calls Tryz.prog 82 #[enS s] w fun e w' => e = .returned (enS (lowS s)) ∧ Upd w w' (fun _ => False) := by
  have L := fun w => letters_any w ⟨s.toArray⟩ hs 65 32 lowB (by omega) low_in low_out
  obtain ⟨z, hz⟩ : ∃ z, s.map lowB = z := ⟨_, rfl⟩
  unfold lowS
  simp only [hz] at L ⊢
  go_enter Tryz.func82, Tryz.ntmps82
  go_wp2_with (go_at_call 131; refine Calls.mono (L _) ?_; rintro e w1 ⟨rfl, u1⟩)
  go_ret
  exact ⟨rfl, u1⟩
end Go.Proofs.YtmfngdjhkpddoaaGreatDoor
/- The walks of the reference's Lower, Upper. -/
set_option maxRecDepth 100000
namespace Go.Proofs.YtmfngdjhkpddoaaGreatDoor
open Go.RowKit Go.Lat Go.Lib

set_option maxHeartbeats 1600000 in
theorem RLower_any (w : World) (z : List UInt8) (hs0 : z.length ≤ 1000000) : Calls Tryz.prog 89 #[enS z] w fun e w' => e = .returned (enS (z.map lowB)) ∧ Upd w w' (fun _ => False) := by
  obtain ⟨s, hss⟩ : ∃ s : ByteArray, ⟨z.toArray⟩ = s := ⟨_, rfl⟩
  have hz : s.data.toList = z := by rw [← hss]
  have hs : s.size ≤ 1000000 := by rw [← hss]; exact hs0
  change Calls Tryz.prog 89 #[.string ⟨z.toArray⟩] w _
  rw [hss, ← hz]
  clear hss hz hs0
  have KC := fun w => Lib.run_convert_string_bytes (P := Tryz.prog) w 9 153 5 s Tryz.underlying9 Tryz.underlying153 Tryz.underlying5
  have hB := Buf.made w 5 s
  have hU := Buf.world w 5 s
  obtain ⟨W, hW⟩ : ∃ W, bytesWorld w 5 s = W := ⟨_, rfl⟩
  have KW := KC w
  rw [hW] at hB hU KW
  obtain ⟨cap, hcap⟩ : ∃ cap, grownCap w s.size 0 5 = cap := ⟨_, rfl⟩
  rw [hcap] at KW
  obtain ⟨N, hN⟩ : ∃ N, s.size = N := ⟨_, rfl⟩
  have hl : s.data.toList.length = N := by rw [← hN]; exact Array.length_toList
  rw [hN] at KW hs
  obtain ⟨l, hl2⟩ : ∃ l, s.data.toList = l := ⟨_, rfl⟩
  rw [hl2] at hB hl ⊢
  have HB := hide hB
  have HU := hide hU
  have HL := hide hl
  have gl := hB.lt
  clear KC hW hcap hN hB hU hl hl2
  go_enter Tryz.func89, Tryz.ntmps89
  go_wp2_with fail
  obtain ⟨g, hg⟩ : ∃ g, w.heap.size = g := ⟨_, rfl⟩
  have HG := hide hg
  have hB0 := HB.out
  rw [hg] at hB0 gl ⊢
  have HB0 := hide hB0
  clear hg hB0 KW
  go_loopg [4] N (fun q iv wr => ∃ i : Nat, i + q = N ∧ iv = .int .i64 i ∧ Buf wr g (turned lowB i l) ∧ Upd w wr (fun _ => False))
  case atStart => exact ⟨0, by omega, rfl, by simpa [turned] using HB0.out, HU.out⟩
  case round =>
    obtain ⟨i, hi, rfl, hb, hu⟩ := hrel
    by_cases hiN : i < N
    · obtain ⟨c, hc⟩ : ∃ c, l[i]? = some c := ⟨_, List.getElem?_eq_getElem (by rw [HL.out]; exact hiN)⟩
      have c0 := hb.cell (turned_at (h := lowB) hc)
      have f0 := hb.free (j := i) (by rw [turned_len, HL.out]; exact hiN)
      have bl := hb.lt
      have hi0 : (0 : Int) ≤ (i : Int) := by omega
      have hi1 : (i : Int) < (N : Int) := by omega
      have hnx := turned_next (h := lowB) hc
      have hst := hb.set (i := i) (by rw [turned_len, HL.out]; exact hiN) (lowB c)
      rw [← hnx] at hst
      have c255 : c.toNat < 256 := c.toNat_lt
      have hg0 : w.heap.size ≤ g := Nat.le_of_eq HG.out
      have HST := hide hst
      have HBI := hide hb
      have HUI := hide hu
      have HHC := hide hc
      clear hst hb hu hnx hc
      by_cases h1 : 65 ≤ c.toNat
      · have d1 : decide ((65 : Int) ≤ (c.toNat : Int)) = true := by simp; omega
        have d1' : decide (65 ≤ c.toNat) = true := by simpa using h1
        by_cases h2 : c.toNat ≤ 90
        · have d2 : decide ((c.toNat : Int) ≤ 90) = true := by simp; omega
          have d2' : decide (c.toNat ≤ 90) = true := by simpa using h2
          have hd := low_in c h1 (by omega)
          have hw8 : IntKind.u8.wrap ((c.toNat : Int) + 32) = ((lowB c).toNat : Int) := by
            rw [hd, IntKind.wrap_u8]
            omega
          clear h1 h2 hd
          go_wp2_with fail
          go_roundg (gk - 1)
          case measure => omega
          case rel => exact ⟨i + 1, by omega, by go_num, HST.out, HUI.out.setCell _ _ (.inl hg0)⟩
        · have d2 : decide ((c.toNat : Int) ≤ 90) = false := by simp; omega
          have d2' : decide (c.toNat ≤ 90) = false := by simpa using h2
          have ho := low_out c (by omega)
          have hsm : turned lowB (i + 1) l = turned lowB i l := by
            rw [turned_next HHC.out, ho]
            exact set_same (turned_at HHC.out)
          have HSM := hide hsm
          clear h1 h2 ho hsm
          go_wp2_with fail
          go_roundg (gk - 1)
          case measure => omega
          case rel => exact ⟨i + 1, by omega, by go_num, by rw [HSM.out]; exact HBI.out, HUI.out⟩
      · have d1 : decide ((65 : Int) ≤ (c.toNat : Int)) = false := by simp; omega
        have d1' : decide (65 ≤ c.toNat) = false := by simpa using h1
        have ho := low_out c (by omega)
        have hsm : turned lowB (i + 1) l = turned lowB i l := by
          rw [turned_next HHC.out, ho]
          exact set_same (turned_at HHC.out)
        have HSM := hide hsm
        clear h1 ho hsm
        go_wp2_with fail
        go_roundg (gk - 1)
        case measure => omega
        case rel => exact ⟨i + 1, by omega, by go_num, by rw [HSM.out]; exact HBI.out, HUI.out⟩
    · have hi1 : ¬ (i : Int) < (N : Int) := by omega
      have hiN2 : i = l.length := by rw [HL.out]; omega
      have hb2 : Buf wr g (l.map lowB) := by rw [← turned_all lowB l, ← hiN2]; exact hb
      have KB := hb2.back cap N (by rw [List.length_map]; exact HL.out)
      have HUI := hide hu
      clear hb hu hb2 hiN2
      go_wp2_with fail
      go_ret
      exact ⟨rfl, HUI.out⟩

end Go.Proofs.YtmfngdjhkpddoaaGreatDoor
/- The walk of the reference's texts: which of two comes first, by bytes. -/
set_option maxRecDepth 100000
namespace Go.Proofs.YtmfngdjhkpddoaaGreatDoor
open Go.RowKit Go.Lat Go.Lib

theorem lt_cons8 {x y : UInt8} {a b : List UInt8} : (x :: a) < (y :: b) ↔ x < y ∨ (x = y ∧ a < b) := List.cons_lt_cons_iff
theorem lt_drop : ∀ {a b : List UInt8} (n : Nat), a.take n = b.take n → (a < b ↔ a.drop n < b.drop n)
  | a, b, 0, _ => by simp
  | [], [], n + 1, _ => by simp
  | [], y :: b, n + 1, h => by simp at h
  | x :: a, [], n + 1, h => by simp at h
  | x :: a, y :: b, n + 1, h => by
    simp only [List.take_succ_cons, List.cons.injEq] at h
    obtain ⟨rfl, h⟩ := h
    rw [lt_cons8, List.drop_succ_cons, List.drop_succ_cons, ← lt_drop n h]
    constructor
    · rintro (q | ⟨_, q⟩)
      · exact absurd q (by simp)
      · exact q
    · exact fun q => .inr ⟨rfl, q⟩
theorem less_at {a b : List UInt8} {j : Nat} {x y : UInt8} (ht : a.take j = b.take j) (hx : a[j]? = some x) (hy : b[j]? = some y) (hne : x ≠ y) : (a < b) ↔ x < y := by
  obtain ⟨h1, e1⟩ := List.getElem?_eq_some_iff.1 hx
  obtain ⟨h2, e2⟩ := List.getElem?_eq_some_iff.1 hy
  rw [lt_drop j ht, List.drop_eq_getElem_cons h1, List.drop_eq_getElem_cons h2, e1, e2, lt_cons8]
  constructor
  · rintro (q | ⟨q, _⟩)
    · exact q
    · exact absurd q hne
  · exact .inl
theorem less_end {a b : List UInt8} {j : Nat} (ht : a.take j = b.take j) (hj : j = a.length ∨ j = b.length) (h1 : j ≤ a.length) (h2 : j ≤ b.length) : (a < b) ↔ a.length < b.length := by
  rw [lt_drop j ht]
  rcases hj with e | e
  · rw [List.drop_eq_nil_of_le (by omega)]
    by_cases h : a.length < b.length
    · obtain ⟨x, hx⟩ : ∃ x, b[j]? = some x := ⟨_, List.getElem?_eq_getElem (by omega)⟩
      obtain ⟨h3, e3⟩ := List.getElem?_eq_some_iff.1 hx
      rw [List.drop_eq_getElem_cons h3]
      exact ⟨fun _ => h, fun _ => List.nil_lt_cons _ _⟩
    · rw [List.drop_eq_nil_of_le (by omega)]
      simp [h]
  · have e0 : b.drop j = [] := List.drop_eq_nil_of_le (by omega)
    have : ¬ a.length < b.length := by omega
    rw [e0]
    simp [this]
theorem take_next {a b : List UInt8} {j : Nat} {x : UInt8} (ht : a.take j = b.take j) (hx : a[j]? = some x) (hy : b[j]? = some x) : a.take (j + 1) = b.take (j + 1) := by
  rw [List.take_add_one, List.take_add_one, ht, hx, hy]

theorem cmpS_at {a b : List UInt8} {j : Nat} {x y : UInt8} (ht : a.take j = b.take j) (hx : a[j]? = some x) (hy : b[j]? = some y) (hne : x ≠ y) : cmpS a b = if x < y then -1 else 1 := by
  unfold cmpS
  have h1 := less_at ht hx hy hne
  have h2 := less_at ht.symm hy hx (fun e => hne e.symm)
  by_cases h : x < y
  · rw [if_pos (h1.2 h), if_pos h]
  · have h' : y < x := by
      have e1 : ¬ x.toNat < y.toNat := fun q => h (UInt8.lt_iff_toNat_lt.2 q)
      have e2 : x.toNat ≠ y.toNat := fun q => hne (UInt8.toNat_inj.1 q)
      exact UInt8.lt_iff_toNat_lt.2 (by omega)
    rw [if_neg (fun q => h (h1.1 q)), if_pos (h2.2 h'), if_neg h]
theorem cmpS_end {a b : List UInt8} {j : Nat} (ht : a.take j = b.take j) (hj : j = a.length ∨ j = b.length) (h1 : j ≤ a.length) (h2 : j ≤ b.length) : cmpS a b = cmpI (a.length : Nat) (b.length : Nat) := by
  unfold cmpS cmpI
  have e1 := less_end ht hj h1 h2
  have e2 := less_end ht.symm (hj.elim .inr .inl) h2 h1
  simp only [e1, e2, Int.ofNat_lt]

theorem texts_any (w : World) (a b : List UInt8) (ha : a.length ≤ 1000000) (hb : b.length ≤ 1000000) :
    Calls Tryz.prog 90 #[enS a, enS b] w fun e w' => e = .returned (.int .i64 (cmpS a b)) ∧ ∃ n, w' = w.drewN n := by
  obtain ⟨N, hN⟩ : ∃ N, min a.length b.length = N := ⟨_, rfl⟩
  obtain ⟨sa, hsa⟩ : ∃ s : ByteArray, ⟨a.toArray⟩ = s := ⟨_, rfl⟩
  obtain ⟨sb, hsb⟩ : ∃ s : ByteArray, ⟨b.toArray⟩ = s := ⟨_, rfl⟩
  have za : sa.size = a.length := by rw [← hsa]; rfl
  have zb : sb.size = b.length := by rw [← hsb]; rfl
  have ga : ∀ (j : Nat) (h : j < sa.size) (x : UInt8), a[j]? = some x → sa[j] = x := by
    subst hsa
    intro j h x hx
    obtain ⟨h1, e1⟩ := List.getElem?_eq_some_iff.1 hx
    rw [← e1]
    rfl
  have gb : ∀ (j : Nat) (h : j < sb.size) (x : UInt8), b[j]? = some x → sb[j] = x := by
    subst hsb
    intro j h x hx
    obtain ⟨h1, e1⟩ := List.getElem?_eq_some_iff.1 hx
    rw [← e1]
    rfl
  change Calls Tryz.prog 90 #[.string ⟨a.toArray⟩, .string ⟨b.toArray⟩] w _
  rw [hsa, hsb]
  have HZA := hide za
  have HZB := hide zb
  have HGA := hide ga
  have HGB := hide gb
  have HN := hide hN
  have mA : sa.size ≤ 1000000 := by omega
  have mB : sb.size ≤ 1000000 := by omega
  have NU := fun w => numbers_any w (sa.size : Nat) (sb.size : Nat)
  clear za zb ga gb hN hsa hsb
  go_enter Tryz.func90, Tryz.ntmps90
  go_wp2_with fail
  go_loopg [5] N (fun q iv wr => (∃ n, wr = w.drewN n) ∧ ∃ j : Nat, j + q = N ∧ iv = .int .i64 j ∧ a.take j = b.take j)
  case atStart => exact ⟨⟨0, rfl⟩, 0, by omega, rfl, by simp⟩
  case round =>
    obtain ⟨hw, j, hj, rfl, ht⟩ := hrel
    have HW := hide hw
    have HT := hide ht
    clear hw ht
    by_cases hja : j < sa.size
    · have k0 : (0 : Int) ≤ (j : Int) := by omega
      have k1 : (j : Int) < (sa.size : Int) := by omega
      by_cases hjb : j < sb.size
      · have k2 : (j : Int) < (sb.size : Int) := by omega
        obtain ⟨x, hx⟩ : ∃ x, a[j]? = some x := ⟨_, List.getElem?_eq_getElem (by have := HZA.out; omega)⟩
        obtain ⟨y, hy⟩ : ∃ y, b[j]? = some y := ⟨_, List.getElem?_eq_getElem (by have := HZB.out; omega)⟩
        have ex := HGA.out j hja x hx
        have ey := HGB.out j hjb y hy
        have HX := hide hx
        have HY := hide hy
        clear hx hy
        by_cases hxy : x = y
        · subst hxy
          have d1 : decide ((x.toNat : Int) < (x.toNat : Int)) = false := by simp
          go_wp2_with fail
          go_quiet (fail)
          go_wp2_with fail
          go_quiet (fail)
          go_wp2_with fail
          go_roundg (gk - 1)
          case measure => have := HZA.out; have := HZB.out; have := HN.out; omega
          case rel =>
            obtain ⟨n, rfl⟩ := HW.out
            refine ⟨⟨_, by first | rw [World.drewN_drewN, World.drewN_drewN] | rw [World.drewN_drewN]⟩, j + 1, by have := HZA.out; have := HZB.out; have := HN.out; omega, by go_num, take_next HT.out HX.out HY.out⟩
        · have hne : x.toNat ≠ y.toNat := fun e => hxy (UInt8.toNat_inj.1 e)
          have HR := hide (cmpS_at HT.out HX.out HY.out hxy)
          by_cases hlt : x < y
          · have h3 : x.toNat < y.toNat := UInt8.lt_iff_toNat_lt.1 hlt
            have d1 : decide ((x.toNat : Int) < (y.toNat : Int)) = true := by simp; omega
            have d2 : decide (x.toNat < y.toNat) = true := by simpa using h3
            have hv : cmpS a b = -1 := by rw [HR.out, if_pos hlt]
            have HV := hide hv
            clear hxy hlt hne h3 hv
            go_wp2_with fail
            go_quiet (fail)
            go_wp2_with fail
            go_ret
            obtain ⟨n, rfl⟩ := HW.out
            exact ⟨by rw [HV.out]; rfl, _, by rw [World.drewN_drewN]⟩
          · have h3 : ¬ x.toNat < y.toNat := fun q => hlt (UInt8.lt_iff_toNat_lt.2 q)
            have d1 : decide ((x.toNat : Int) < (y.toNat : Int)) = false := by simp; omega
            have d2 : decide (x.toNat < y.toNat) = false := by simpa using h3
            have d3 : decide ((y.toNat : Int) < (x.toNat : Int)) = true := by simp; omega
            have d4 : decide (y.toNat < x.toNat) = true := by simp; omega
            have hv : cmpS a b = 1 := by rw [HR.out, if_neg hlt]
            have HV := hide hv
            clear hxy hlt hne h3 hv
            go_wp2_with fail
            go_quiet (fail)
            go_wp2_with fail
            go_quiet (fail)
            go_wp2_with fail
            go_ret
            obtain ⟨n, rfl⟩ := HW.out
            exact ⟨by rw [HV.out]; rfl, _, by rw [World.drewN_drewN, World.drewN_drewN]⟩
      · have k2 : ¬ (j : Int) < (sb.size : Int) := by omega
        have hv : cmpS a b = cmpI (sa.size : Nat) (sb.size : Nat) := by
          have := HZA.out
          have := HZB.out
          have := HN.out
          rw [HZA.out, HZB.out]
          exact cmpS_end HT.out (by omega) (by omega) (by omega)
        obtain ⟨R, hR⟩ : ∃ R, cmpI (sa.size : Nat) (sb.size : Nat) = R := ⟨_, rfl⟩
        rw [hR] at NU hv
        have HV := hide hv
        clear hv hR
        go_wp2_with (go_at_call 88; refine Calls.mono (NU _) ?_; rintro e w1 ⟨rfl, rfl⟩)
        go_ret
        exact ⟨by rw [HV.out]; rfl, HW.out⟩
    · have k2 : ¬ (j : Int) < (sa.size : Int) := by omega
      have hv : cmpS a b = cmpI (sa.size : Nat) (sb.size : Nat) := by
        have := HZA.out
        have := HZB.out
        have := HN.out
        rw [HZA.out, HZB.out]
        exact cmpS_end HT.out (by omega) (by omega) (by omega)
      obtain ⟨R, hR⟩ : ∃ R, cmpI (sa.size : Nat) (sb.size : Nat) = R := ⟨_, rfl⟩
      rw [hR] at NU hv
      have HV := hide hv
      clear hv hR
      go_wp2_with (go_at_call 88; refine Calls.mono (NU _) ?_; rintro e w1 ⟨rfl, rfl⟩)
      go_ret
      exact ⟨by rw [HV.out]; rfl, HW.out⟩
end Go.Proofs.YtmfngdjhkpddoaaGreatDoor
/- What package value's Order says; two blocks of five cells. -/
set_option maxRecDepth 100000
namespace Go.Proofs.YtmfngdjhkpddoaaGreatDoor
open Go.RowKit Go.Lat Go.Lib

theorem soundV_ok {x : Vl} (h : x.ok) : (soundV x).ok := by
  unfold soundV
  split
  · exact h
  · exact mkE_ok 3
def ord2 (a b : Vl) : Int :=
  if a.k ≠ b.k then cmpI a.k b.k else if a.k = 1 then cmpI a.n b.n else if a.k = 2 then cmpS (lowS a.t) (lowS b.t) else (if a.b then 1 else 0) - (if b.b then 1 else 0)
/-- Which of two values comes first, or the error. -/
def orderV (x y : Vl) : Int × Int :=
  if (soundV x).k = 4 then (0, (soundV x).f) else if (soundV y).k = 4 then (0, (soundV y).f) else (ord2 (besideV (soundV x) (soundV y)) (besideV (soundV y) (soundV x)), 0)
abbrev OrdPost (w : World) (p : Int × Int) : Ending → World → Prop := fun e w' => e = .returned (.tuple #[.int .i64 p.1, .int .i64 p.2]) ∧ Upd w w' (fun _ => False)
noncomputable def ordC1 : Code := match Tryz.f36.body with
  | some (.seq _ (.seq _ c)) => c
  | _ => .skip
noncomputable def ordR8 : Code := match ordC1 with
  | .seq _ (.seq r _) => r
  | _ => .skip
/-- The code behind the loop. -/
noncomputable def ordC3 : Code := match ordC1 with
  | .seq _ c => c
  | _ => .skip
noncomputable def ordC2 : Code := match ordC1 with
  | .seq _ (.seq _ c) => c
  | _ => .skip
abbrev set5 (W : World) (g : Nat) (v0 v1 v2 v3 v4 : Value) : World := ((((W.setCell ⟨g, 0, none⟩ v0).setCell ⟨g, 1, none⟩ v1).setCell ⟨g, 2, none⟩ v2).setCell ⟨g, 3, none⟩ v3).setCell ⟨g, 4, none⟩ v4
theorem set5_upd (W : World) (g : Nat) (v0 v1 v2 v3 v4 : Value) : Upd W (set5 W g v0 v1 v2 v3 v4) (fun k => k = g) :=
  (((((Upd.refl W (fun k => k = g)).setCell ⟨g, 0, none⟩ v0 (.inr rfl)).setCell ⟨g, 1, none⟩ v1 (.inr rfl)).setCell ⟨g, 2, none⟩ v2 (.inr rfl)).setCell ⟨g, 3, none⟩ v3 (.inr rfl)).setCell ⟨g, 4, none⟩ v4 (.inr rfl)
/-- Both blocks are stored into. -/
theorem set_two {W : World} {g h : Nat} {x y : Vl} (hg : W.heap[g]? = some (.cells x.cs 26 (0, 0))) (hh : W.heap[h]? = some (.cells y.cs 26 (0, 0))) (hne : g ≠ h) (a b : Vl) :
    (set5 (set5 W g (.int .i64 a.k) (.int .i64 a.n) (.string ⟨a.t.toArray⟩) (.bool a.b) (.int .i64 a.f)) h (.int .i64 b.k) (.int .i64 b.n) (.string ⟨b.t.toArray⟩) (.bool b.b) (.int .i64 b.f)).heap[g]? = some (.cells a.cs 26 (0, 0)) ∧
    (set5 (set5 W g (.int .i64 a.k) (.int .i64 a.n) (.string ⟨a.t.toArray⟩) (.bool a.b) (.int .i64 a.f)) h (.int .i64 b.k) (.int .i64 b.n) (.string ⟨b.t.toArray⟩) (.bool b.b) (.int .i64 b.f)).heap[h]? = some (.cells b.cs 26 (0, 0)) ∧
    Upd W (set5 (set5 W g (.int .i64 a.k) (.int .i64 a.n) (.string ⟨a.t.toArray⟩) (.bool a.b) (.int .i64 a.f)) h (.int .i64 b.k) (.int .i64 b.n) (.string ⟨b.t.toArray⟩) (.bool b.b) (.int .i64 b.f)) (fun k => k = g ∨ k = h) := by
  have u1 := set5_upd W g (.int .i64 a.k) (.int .i64 a.n) (.string ⟨a.t.toArray⟩) (.bool a.b) (.int .i64 a.f)
  have u2 := set5_upd (set5 W g (.int .i64 a.k) (.int .i64 a.n) (.string ⟨a.t.toArray⟩) (.bool a.b) (.int .i64 a.f)) h (.int .i64 b.k) (.int .i64 b.n) (.string ⟨b.t.toArray⟩) (.bool b.b) (.int .i64 b.f)
  have h1 := u1.get hh (fun e => hne e.symm)
  exact ⟨u2.get (block5 hg _ _ _ _ _) hne, block5 h1 _ _ _ _ _, (u1.weaken (fun _ _ e => .inl e)).then u2 (fun _ _ e => .inr e)⟩
end Go.Proofs.YtmfngdjhkpddoaaGreatDoor
/- The reference's Order behind what is blank. -/
set_option maxRecDepth 1000000
namespace Go.Proofs.YtmfngdjhkpddoaaGreatDoor
open Go.RowKit Go.Lat Go.Lib

noncomputable def rordC2 : Code := match Tryz.f41.body with
  | some (.seq _ (.seq _ (.seq _ (.seq _ (.seq _ (.seq _ (.seq _ c))))))) => c
  | _ => .skip
/-- The two values' kinds are those of values that may be, and no errors. -/
def plainK (a : Vl) : Prop := a.k = 0 ∧ a.b = false ∨ a.k = 1 ∨ a.k = 2 ∨ a.k = 3
set_option maxHeartbeats 3200000 in
theorem rord_b2 (w W : World) (X1 X2 : Nat) (a b : Vl) (z1 : W.heap[X1]? = some (.cells a.cs 36 (0, 0))) (z2 : W.heap[X2]? = some (.cells b.cs 36 (0, 0))) (u : Upd w W (fun _ => False)) (la : a.t.length ≤ 1000000) (lb : b.t.length ≤ 1000000) (pa : plainK a) (pb : plainK b) (c0 c1 c4 c5 c6 c7 c8 c9 c10 c11 c12 c13 c14 c15 c16 c17 c18 c19 c20 c21 c22 c23 c24 c25 c26 c27 c28 c29 c30 c31 c32 c33 c34 c35 c36 c37 c38 c39 c40 c41 c42 c43 c44 c45 c46 c47 c48 c49 c50 c51 c52 c53 c54 c55 c56 c57 c58 c59 c60 c61 c62 c63 c64 c65 c66 c67 c68 c69 c70 c71 c72 : Value) :
    Code.wp Tryz.prog rordC2 (bodyPost Tryz.prog Tryz.f41 (OrdPost w (ord2 a b, 0))) ⟨#[c0, c1, .pointer (some ⟨X1, 0, none⟩), .pointer (some ⟨X2, 0, none⟩), c4, c5, c6, c7, c8, c9, c10, c11, c12, c13, c14, c15, c16, c17, c18, c19, c20, c21, c22, c23, c24, c25, c26, c27, c28, c29, c30, c31, c32, c33, c34, c35, c36, c37, c38, c39, c40, c41, c42, c43, c44, c45, c46, c47, c48, c49, c50, c51, c52, c53, c54, c55, c56, c57, c58, c59, c60, c61, c62, c63, c64, c65, c66, c67, c68, c69, c70, c71, c72], []⟩ W := by
  obtain ⟨c0, c1, c2, c3, c4⟩ := cells5 z1
  obtain ⟨e0, e1, e2, e3, e4⟩ := cells5 z2
  have l1 := lt_at z1
  have l2 := lt_at z2
  have Z1 := hide z1
  have Z2 := hide z2
  have HU := hide u
  obtain ⟨ak, an, at', ab, af⟩ := a
  obtain ⟨bk, bn, bt, bb, bf⟩ := b
  unfold plainK at pa pb
  simp only at la lb c0 c1 c2 c3 c4 e0 e1 e2 e3 e4 pa pb
  unfold ord2
  simp only
  have CK := fun w => numbers_any w ak bk
  have CN := fun w => numbers_any w an bn
  have LA := fun w => RLower_any w at' la
  have LB := fun w => RLower_any w bt lb
  have CS := fun w => texts_any w (lowS at') (lowS bt) (by unfold lowS; simpa using la) (by unfold lowS; simpa using lb)
  clear z1 z2 u
  conv => arg 2; whnf
  by_cases hk : ak = bk
  · subst hk
    have k0 : (ak != ak) = false := by simp
    simp only [ne_eq, not_true_eq_false, if_false]
    by_cases h1 : ak = 1
    · subst h1
      rw [if_pos rfl]
      obtain ⟨R, hR⟩ : ∃ R, cmpI an bn = R := ⟨_, rfl⟩
      rw [hR] at CN ⊢
      clear hR pa pb
      go_wp2_with (go_at_call 88; refine Calls.mono (CN _) ?_; rintro e w' ⟨rfl, hw⟩; replace hw := hw.symm; subst hw)
      go_ret2
      exact ⟨rfl, HU.out⟩
    · have b1 : (ak == 1) = false := by simpa using h1
      rw [if_neg h1]
      by_cases h2 : ak = 2
      · subst h2
        rw [if_pos rfl]
        obtain ⟨R, hR⟩ : ∃ R, cmpS (lowS at') (lowS bt) = R := ⟨_, rfl⟩
        rw [hR] at CS ⊢
        change ∀ w, Calls Tryz.prog 89 #[enS at'] w fun e w' => e = .returned (enS (lowS at')) ∧ Upd w w' (fun _ => False) at LA
        change ∀ w, Calls Tryz.prog 89 #[enS bt] w fun e w' => e = .returned (enS (lowS bt)) ∧ Upd w w' (fun _ => False) at LB
        obtain ⟨sa, hsa⟩ : ∃ s, lowS at' = s := ⟨_, rfl⟩
        obtain ⟨sb, hsb⟩ : ∃ s, lowS bt = s := ⟨_, rfl⟩
        rw [hsa] at LA CS
        rw [hsb] at LB CS
        clear hR h1 hsa hsb pa pb
        have HCS := hide CS
        have HLB := hide LB
        clear CS LB
        go_wp2_with fail
        refine Calls.mono (LA _) ?_
        rintro e w3 ⟨rfl, u3⟩
        have y1 := u3.get Z1.out id
        have y2 := u3.get Z2.out id
        have d2 := (cells5 y2).2.2.1
        have m2 := lt_at y2
        have HU3 := hide u3
        clear y1 y2 u3 LA
        go_wp2_with fail
        refine Calls.mono (HLB.out _) ?_
        rintro e w4 ⟨rfl, u4⟩
        have HU4 := hide u4
        clear u4
        go_wp2_with fail
        refine Calls.mono (HCS.out _) ?_
        rintro e w5 ⟨rfl, sn, hw5⟩
        have HU5 := hide hw5
        clear hw5
        go_wp2_with fail
        go_ret2
        exact ⟨rfl, by rw [HU5.out]; exact ((HU.out.then HU3.out (fun _ _ => id)).then HU4.out (fun _ _ => id)).drewN sn⟩
      · have b2 : (ak == 2) = false := by simpa using h2
        rw [if_neg h2]
        by_cases h3 : ak = 3
        · subst h3
          clear h1 h2 pa pb
          cases ab <;> cases bb
          all_goals go_wp2_with fail
          all_goals go_ret2
          all_goals exact ⟨rfl, HU.out⟩
        · have b3 : (ak == 3) = false := by simpa using h3
          have ha : ab = false := by
            rcases pa with ⟨_, h⟩ | h | h | h
            · exact h
            · exact absurd h h1
            · exact absurd h h2
            · exact absurd h h3
          have hb : bb = false := by
            rcases pb with ⟨_, h⟩ | h | h | h
            · exact h
            · exact absurd h h1
            · exact absurd h h2
            · exact absurd h h3
          subst ha hb
          clear h1 h2 h3 pa pb
          go_wp2_with fail
          go_ret2
          exact ⟨rfl, HU.out⟩
  · have k0 : (ak != bk) = true := by simpa using hk
    have k1 : (ak == bk) = false := by simpa using hk
    simp only [ne_eq, hk, not_false_eq_true, if_true]
    obtain ⟨R, hR⟩ : ∃ R, cmpI ak bk = R := ⟨_, rfl⟩
    rw [hR] at CK ⊢
    clear hR hk pa pb
    go_wp2_with (go_at_call 88; refine Calls.mono (CK _) ?_; rintro e w' ⟨rfl, hw⟩; replace hw := hw.symm; subst hw)
    go_ret2
    exact ⟨rfl, HU.out⟩
end Go.Proofs.YtmfngdjhkpddoaaGreatDoor
/- The walk of the reference's Order. -/
set_option maxRecDepth 1000000
namespace Go.Proofs.YtmfngdjhkpddoaaGreatDoor
open Go.RowKit Go.Lat Go.Lib

theorem rset_two1 {W : World} {g : Nat} {x : Vl} (hg : W.heap[g]? = some (.cells x.cs 36 (0, 0))) (a : Vl) :
    (set5 W g (.int .i64 a.k) (.int .i64 a.n) (.string ⟨a.t.toArray⟩) (.bool a.b) (.int .i64 a.f)).heap[g]? = some (.cells a.cs 36 (0, 0)) := rblock5 hg _ _ _ _ _
theorem goodV_plain {x : Vl} (h : goodV x = true) (h4 : x.k ≠ 4) : plainK x := by
  unfold plainK
  unfold goodV at h
  split at h
  · rename_i h0
    have := eqV_iff.1 h
    exact .inl ⟨h0, by rw [this]; rfl⟩
  · split at h
    · rename_i h1; exact .inr (.inl h1)
    · split at h
      · rename_i h1; exact .inr (.inr (.inl h1))
      · split at h
        · rename_i h1; exact .inr (.inr (.inr h1))
        · cases h
theorem soundV_plain {x : Vl} (h4 : (soundV x).k ≠ 4) : plainK (soundV x) := by
  unfold soundV at h4 ⊢
  split
  · rename_i h
    rw [if_pos h] at h4
    exact goodV_plain h h4
  · rename_i h
    rw [if_neg h] at h4
    exact absurd rfl h4
theorem beside_plain {a b : Vl} (ha : plainK a) (hb : plainK b) : plainK (besideV a b) := by
  unfold besideV
  split
  · rcases hb with ⟨h, _⟩ | h | h | h
    · exact .inl ⟨h, rfl⟩
    · exact .inr (.inl h)
    · exact .inr (.inr (.inl h))
    · exact .inr (.inr (.inr h))
  · exact ha
end Go.Proofs.YtmfngdjhkpddoaaGreatDoor
