/- The walks of the reference's Sound, numbers; of package value's beside; of cmp.Compare. -/
import Derived.Test.YtdjpkkgcoainhaaGreatDoorJ02
import Derived.Sort.Walk0
import Derived.Lib.ConvBytes
import Derived.Laws.IdiomStrings
import Derived.Lib.AtoiErrMem
/- The walks of the reference's Sound, numbers; of package value's beside; of cmp.Compare. -/
set_option maxRecDepth 100000
namespace Go.Proofs.YtdjpkkgcoainhaaGreatDoor
open Go.RowKit Go.Lat Go.Sort

set_option maxHeartbeats 800000 in
theorem RSound_any (w : World) (x : Vl) : Calls Tryz.prog 50 #[x.val] w fun e w' => e = .returned (soundV x).val ∧ Upd w w' (fun _ => False) := by
  have GA := fun w => RGood_any w x
  unfold soundV
  cases hg : goodV x with
  | true =>
    rw [hg] at GA
    simp only [if_true]
    obtain ⟨k, n, t, b, f⟩ := x
    unfold Vl.val at GA ⊢
    clear hg
    go_enter Tryz.func50, Tryz.ntmps50
    go_wp2_with (go_at_call 26; refine Calls.mono (GA _) ?_; rintro e w1 ⟨rfl, u1⟩
                 have bA := u1.get (block_alloc (Vnew1 w (.cells (Vl.mk k n t b f).cs 30)) _) id
                 have bX := u1.get (Vnew2 w (.cells (Vl.mk k n t b f).cs 30) (.cells vZero.cs 30)) id
                 obtain ⟨a0, a1, a2, a3, a4⟩ := cells5 bA
                 have al := lt_at bA
                 obtain ⟨c0, c1, c2, c3, c4⟩ := cells5 bX
                 have xl := lt_at bX
                 have f0 := free_at bX 0
                 have f1 := free_at bX 1
                 have f2 := free_at bX 2
                 have f3 := free_at bX 3
                 have f4 := free_at bX 4
                 have HX := hide bX
                 have HU := hide u1
                 clear bX bA u1)
    (try simp only [Exit.inBlock, Exit.then])
    refine bodyPost_ret (ret_rv rfl _ _ (w.heap.size + 1) ⟨k, n, t, b, f⟩ rfl (rblock5 HX.out _ _ _ _ _)) rfl ?_
    exact ⟨rfl, upd5 ((((Upd.refl w _).alloc _).alloc _).then HU.out (fun _ _ => id)) (by omega) _ _ _ _ _⟩
  | false =>
    rw [hg] at GA
    simp only [Bool.false_eq_true, if_false]
    have EA := fun w => RE_any w 3
    obtain ⟨ev, hev⟩ : ∃ v, mkE 3 = v := ⟨_, rfl⟩
    rw [hev] at EA ⊢
    obtain ⟨k0, n0, t0, b0, e0⟩ := ev
    obtain ⟨k, n, t, b, f⟩ := x
    unfold Vl.val at GA EA ⊢
    simp only at EA
    clear hev hg
    go_enter Tryz.func50, Tryz.ntmps50
    go_wp2_with (first
      | (go_at_call 26; refine Calls.mono (GA _) ?_; rintro e w1 ⟨rfl, u1⟩
         have bX := u1.get (Vnew2 w (.cells (Vl.mk k n t b f).cs 30) (.cells vZero.cs 30)) id
         have HX := hide bX
         have HU := hide u1
         clear bX u1)
      | (go_at_call 73; refine Calls.mono (EA _) ?_; rintro e w2 ⟨rfl, u2⟩
         have bX := u2.get HX.out id
         obtain ⟨c0, c1, c2, c3, c4⟩ := cells5 bX
         have xl := lt_at bX
         have f0 := free_at bX 0
         have f1 := free_at bX 1
         have f2 := free_at bX 2
         have f3 := free_at bX 3
         have f4 := free_at bX 4
         have HX2 := hide bX
         have HU2 := hide u2
         clear bX u2))
    (try simp only [Exit.inBlock, Exit.then])
    refine bodyPost_ret (ret_rv rfl _ _ (w.heap.size + 1) ⟨k0, n0, t0, b0, e0⟩ rfl (rblock5 HX2.out _ _ _ _ _)) rfl ?_
    exact ⟨rfl, upd5 (((((Upd.refl w _).alloc _).alloc _).then HU.out (fun _ _ => id)).then HU2.out (fun _ _ => id)) (by omega) _ _ _ _ _⟩

/-- What a blank value is beside another one. -/
def besideV (x y : Vl) : Vl := if x.k = 0 then ⟨y.k, 0, [], false, 0⟩ else x
theorem beside_any (w : World) (x y : Vl) : Calls Tryz.prog 41 #[x.val, y.val] w fun e w' => e = .returned (besideV x y).val ∧ Upd w w' (fun _ => False) := by
  have n3 : ∀ (A B C : Obj), (((w.alloc A).alloc B).alloc C).heap[w.heap.size + 1 + 1]? = some C := fun A B C => by
    have := Vnew2 (w.alloc A) B C
    simpa using this
  have n1 : ∀ (A B C : Obj), (((w.alloc A).alloc B).alloc C).heap[w.heap.size]? = some A := fun A B C => block_alloc (block_alloc (Vnew1 w A) B) C
  have n2 : ∀ (A B C : Obj), (((w.alloc A).alloc B).alloc C).heap[w.heap.size + 1]? = some B := fun A B C => block_alloc (Vnew2 w A B) C
  have N3 := hide n3
  clear n3 n1 n2
  obtain ⟨k, n, t, b, f⟩ := x
  obtain ⟨k', n', t', b', f'⟩ := y
  unfold besideV Vl.val
  simp only
  by_cases h : k = 0
  · subst h
    rw [if_pos rfl]
    go_enter Tryz.func41, Tryz.ntmps41
    go_wp2_with fail
    (try simp only [Exit.inBlock, Exit.then])
    refine bodyPost_ret (ret_vl rfl _ _ (w.heap.size + 1 + 1) ⟨k', 0, [], false, 0⟩ rfl (N3.out _ _ _)) rfl ?_
    exact ⟨rfl, (((Upd.refl w _).alloc _).alloc _).alloc _⟩
  · rw [if_neg h]
    have b0 : (k == 0) = false := by simpa using h
    clear h
    go_enter Tryz.func41, Tryz.ntmps41
    go_wp2_with fail
    (try simp only [Exit.inBlock, Exit.then])
    refine bodyPost_ret (ret_vl rfl _ _ (w.heap.size + 1 + 1) ⟨k, n, t, b, f⟩ rfl (N3.out _ _ _)) rfl ?_
    exact ⟨rfl, (((Upd.refl w _).alloc _).alloc _).alloc _⟩

/-- Which of two comes first. -/
def cmpI (a b : Int) : Int := if a < b then -1 else if b < a then 1 else 0
def cmpS (x y : List UInt8) : Int := if x < y then -1 else if y < x then 1 else 0
theorem isNaNK_any (w : World) (x : Int) : Calls Tryz.prog 69 #[.int .i64 x] w fun e w' => e = .returned (.bool false) ∧ w' = w := by
  go_enter Tryz.func69, Tryz.ntmps69
  go_wp2_with fail
  go_ret
  exact ⟨by simp, rfl⟩
theorem CompareK_any (w : World) (x y : Int) : Calls Tryz.prog 42 #[.int .i64 x, .int .i64 y] w fun e w' => e = .returned (.int .i64 (cmpI x y)) ∧ w' = w := by
  have NA := fun {w} v => isNaNK_any w v
  unfold cmpI
  by_cases h1 : x < y
  · have d1 : decide (x < y) = true := by simpa using h1
    rw [if_pos h1]
    clear h1
    go_enter Tryz.func42, Tryz.ntmps42
    go_wp2_with (go_at_call 69; refine Calls.mono (NA _) ?_; rintro e w1 ⟨rfl, rfl⟩)
    go_ret
    exact ⟨rfl, rfl⟩
  · have d1 : decide (x < y) = false := by simpa using h1
    rw [if_neg h1]
    by_cases h2 : y < x
    · have d2 : decide (y < x) = true := by simpa using h2
      rw [if_pos h2]
      clear h1 h2
      go_enter Tryz.func42, Tryz.ntmps42
      go_wp2_with (go_at_call 69; refine Calls.mono (NA _) ?_; rintro e w1 ⟨rfl, rfl⟩)
      go_ret
      exact ⟨rfl, rfl⟩
    · have d2 : decide (y < x) = false := by simpa using h2
      rw [if_neg h2]
      clear h1 h2
      go_enter Tryz.func42, Tryz.ntmps42
      go_wp2_with (go_at_call 69; refine Calls.mono (NA _) ?_; rintro e w1 ⟨rfl, rfl⟩)
      go_ret
      exact ⟨rfl, rfl⟩
theorem isNaNN_any (w : World) (x : Int) : Calls Tryz.prog 70 #[.int .i64 x] w fun e w' => e = .returned (.bool false) ∧ w' = w := by
  go_enter Tryz.func70, Tryz.ntmps70
  go_wp2_with fail
  go_ret
  exact ⟨by simp, rfl⟩
theorem CompareN_any (w : World) (x y : Int) : Calls Tryz.prog 43 #[.int .i64 x, .int .i64 y] w fun e w' => e = .returned (.int .i64 (cmpI x y)) ∧ w' = w := by
  have NA := fun {w} v => isNaNN_any w v
  unfold cmpI
  by_cases h1 : x < y
  · have d1 : decide (x < y) = true := by simpa using h1
    rw [if_pos h1]
    clear h1
    go_enter Tryz.func43, Tryz.ntmps43
    go_wp2_with (go_at_call 70; refine Calls.mono (NA _) ?_; rintro e w1 ⟨rfl, rfl⟩)
    go_ret
    exact ⟨rfl, rfl⟩
  · have d1 : decide (x < y) = false := by simpa using h1
    rw [if_neg h1]
    by_cases h2 : y < x
    · have d2 : decide (y < x) = true := by simpa using h2
      rw [if_pos h2]
      clear h1 h2
      go_enter Tryz.func43, Tryz.ntmps43
      go_wp2_with (go_at_call 70; refine Calls.mono (NA _) ?_; rintro e w1 ⟨rfl, rfl⟩)
      go_ret
      exact ⟨rfl, rfl⟩
    · have d2 : decide (y < x) = false := by simpa using h2
      rw [if_neg h2]
      clear h1 h2
      go_enter Tryz.func43, Tryz.ntmps43
      go_wp2_with (go_at_call 70; refine Calls.mono (NA _) ?_; rintro e w1 ⟨rfl, rfl⟩)
      go_ret
      exact ⟨rfl, rfl⟩
theorem isNaNS_any (w : World) (x : List UInt8) : Calls Tryz.prog 71 #[enS x] w fun e w' => e = .returned (.bool false) ∧ w' = w := by
  go_enter Tryz.func71, Tryz.ntmps71
  go_wp2_with fail
  go_ret
  exact ⟨by simp, rfl⟩
theorem CompareS_any (w : World) (x y : List UInt8) : Calls Tryz.prog 44 #[enS x, enS y] w fun e w' => e = .returned (.int .i64 (cmpS x y)) ∧ w' = w := by
  have b1 : Op.bytesLess x y = decide (x < y) := bytesLess_eq x y
  have b2 : ¬ x < y → (x == y) = !decide (y < x) := by
    intro h1
    by_cases h : y < x
    · have h2 : ¬ x = y := fun q => by subst q; exact h1 h
      simp [h, h2]
    · have h2 : x = y := List.le_antisymm (List.not_lt.1 h) (List.not_lt.1 h1)
      simp [h2]
  have NA := fun {w} v => isNaNS_any w v
  unfold cmpS
  by_cases h1 : x < y
  · have d1 : decide (x < y) = true := by simpa using h1
    rw [d1] at b1
    rw [if_pos h1]
    clear h1 b2
    go_enter Tryz.func44, Tryz.ntmps44
    go_wp2_with (go_at_call 71; refine Calls.mono (NA _) ?_; rintro e w1 ⟨rfl, rfl⟩)
    go_ret
    exact ⟨rfl, rfl⟩
  · have d1 : decide (x < y) = false := by simpa using h1
    rw [d1] at b1
    rw [if_neg h1]
    have b2 := b2 h1
    by_cases h2 : y < x
    · have d2 : decide (y < x) = true := by simpa using h2
      rw [d2] at b2
      rw [if_pos h2]
      clear h1 h2
      go_enter Tryz.func44, Tryz.ntmps44
      go_wp2_with (go_at_call 71; refine Calls.mono (NA _) ?_; rintro e w1 ⟨rfl, rfl⟩)
      go_ret
      exact ⟨rfl, rfl⟩
    · have d2 : decide (y < x) = false := by simpa using h2
      rw [d2] at b2
      rw [if_neg h2]
      clear h1 h2
      go_enter Tryz.func44, Tryz.ntmps44
      go_wp2_with (go_at_call 71; refine Calls.mono (NA _) ?_; rintro e w1 ⟨rfl, rfl⟩)
      go_ret
      exact ⟨rfl, rfl⟩
theorem numbers_any (w : World) (x y : Int) : Calls Tryz.prog 51 #[.int .i64 x, .int .i64 y] w fun e w' => e = .returned (.int .i64 (cmpI x y)) ∧ w' = w := by
  unfold cmpI
  by_cases h1 : x < y
  · have d1 : decide (x < y) = true := by simpa using h1
    rw [if_pos h1]
    clear h1
    go_enter Tryz.func51, Tryz.ntmps51
    go_wp2_with fail
    go_ret
    exact ⟨rfl, rfl⟩
  · have d1 : decide (x < y) = false := by simpa using h1
    rw [if_neg h1]
    by_cases h2 : y < x
    · have d2 : decide (y < x) = true := by simpa using h2
      rw [if_pos h2]
      clear h1 h2
      go_enter Tryz.func51, Tryz.ntmps51
      go_wp2_with fail
      go_ret
      exact ⟨rfl, rfl⟩
    · have d2 : decide (y < x) = false := by simpa using h2
      rw [if_neg h2]
      clear h1 h2
      go_enter Tryz.func51, Tryz.ntmps51
      go_wp2_with fail
      go_ret
      exact ⟨rfl, rfl⟩
end Go.Proofs.YtdjpkkgcoainhaaGreatDoor
/- Bytes of a text in a row of its own; the walks of package value's letters, Lower, Upper. -/
set_option maxRecDepth 100000
namespace Go.Proofs.YtdjpkkgcoainhaaGreatDoor
open Go.RowKit Go.Lat Go.Lib

/-- A row of bytes. -/
def Buf (w : World) (g : Nat) (l : List UInt8) : Prop := ∃ cs t fr, w.heap[g]? = some (.cells cs t fr) ∧ l.length ≤ cs.size ∧ (∀ (j : Nat) (x : UInt8), l[j]? = some x → cs[j]? = some (Value.int .u8 (x.toNat : Int))) ∧ l.length ≤ fr.1
theorem Buf.lt {w : World} {g : Nat} {l : List UInt8} (h : Buf w g l) : g < w.heap.size := by
  obtain ⟨cs, t, fr, h1, _⟩ := h
  exact lt_at h1
theorem Buf.cell {w : World} {g : Nat} {l : List UInt8} (h : Buf w g l) {j : Nat} {x : UInt8} (hj : l[j]? = some x) : w.cell? ⟨g, j, none⟩ = some (Value.int .u8 (x.toNat : Int)) := by
  obtain ⟨cs, t, fr, h1, h2, h3, h4⟩ := h
  rw [cell_of_row w g j cs t fr h1]
  exact h3 j x hj
theorem Buf.free {w : World} {g : Nat} {l : List UInt8} (h : Buf w g l) {j : Nat} (hj : j < l.length) : w.frozen? ⟨g, j, none⟩ = false := by
  obtain ⟨cs, t, ⟨lo, hi⟩, h1, h2, h3, h4⟩ := h
  simp only at h4
  simp [World.frozen?, h1]
  omega
theorem Buf.set {w : World} {g : Nat} {l : List UInt8} (h : Buf w g l) {i : Nat} (hi : i < l.length) (y : UInt8) : Buf (w.setCell ⟨g, i, none⟩ (.int .u8 (y.toNat : Int))) g (l.set i y) := by
  obtain ⟨cs, t, fr, h1, h2, h3, h4⟩ := h
  refine ⟨_, t, fr, block_setCell h1 i _, by simpa using h2, fun j x hj => ?_, by simpa using h4⟩
  by_cases e : j = i
  · subst e
    have hx : x = y := by
      rw [List.getElem?_set_self hi] at hj
      exact (Option.some.inj hj).symm
    subst hx
    rw [Array.getElem?_setIfInBounds_self, if_pos (by omega)]
  · rw [List.getElem?_set_ne (fun q => e q.symm)] at hj
    rw [Array.getElem?_setIfInBounds_ne (fun q => e q.symm)]
    exact h3 j x hj
theorem Buf.made (w : World) (e : TypeId) (s : ByteArray) : Buf (bytesWorld w e s) w.heap.size s.data.toList := by
  refine ⟨_, e, _, bytesWorld_at_new w e s, ?_, fun j x hj => ?_, ?_⟩
  · rw [Array.length_toList]
    simp [bytesCells]
  · have hl : j < s.data.size := by
      have := (List.getElem?_eq_some_iff.1 hj).1
      simpa using this
    simp only [bytesCells]
    rw [Array.getElem?_append_left (by simpa using hl), Array.getElem?_map]
    rw [Array.getElem?_toList] at hj
    rw [hj]
    rfl
  · show s.data.toList.length ≤ (bytesCells w e s).size
    rw [Array.length_toList]
    simp [bytesCells]
theorem Buf.world (w : World) (e : TypeId) (s : ByteArray) : Upd w (bytesWorld w e s) (fun _ => False) := Upd.of_below (Lib.bytesWorld_below _ _ _) _
theorem Buf.back {w : World} {g : Nat} {l : List UInt8} (h : Buf w g l) (cap n : Nat) (hn : l.length = n) : (convert 121 9 (.slice (some ⟨g, 0, none⟩) n cap)).run Tryz.prog w = .ok (.string ⟨l.toArray⟩) w := by
  subst hn
  refine run_convert_bytes_back w 121 9 5 ⟨g, 0, none⟩ cap l Tryz.underlying121 Tryz.underlying5 Tryz.underlying9 (fun j hj => ?_)
  have := h.cell (List.getElem?_eq_getElem hj)
  rw [← this]
  congr 1
  unfold Addr.add
  split
  · rename_i e; rw [e]
  · simp

def lowB (c : UInt8) : UInt8 := if 65 ≤ c.toNat ∧ c.toNat < 91 then UInt8.ofNat (c.toNat + 32) else c
def upB (c : UInt8) : UInt8 := if 97 ≤ c.toNat ∧ c.toNat < 123 then UInt8.ofNat (c.toNat - 32) else c
/-- The bytes, the first i of which are turned. -/
def turned (h : UInt8 → UInt8) (i : Nat) (s : List UInt8) : List UInt8 := (s.take i).map h ++ s.drop i
theorem turned_len (h : UInt8 → UInt8) (i : Nat) (s : List UInt8) : (turned h i s).length = s.length := by
  simp [turned]
  omega
theorem turned_at {h : UInt8 → UInt8} {i : Nat} {s : List UInt8} {c : UInt8} (hc : s[i]? = some c) : (turned h i s)[i]? = some c := by
  have hl := (List.getElem?_eq_some_iff.1 hc).1
  unfold turned
  rw [List.getElem?_append_right (by simp; omega)]
  simp only [List.length_map, List.length_take, List.getElem?_drop]
  rw [← hc]
  congr 1
  omega
theorem turned_next {h : UInt8 → UInt8} {i : Nat} {s : List UInt8} {c : UInt8} (hc : s[i]? = some c) : turned h (i + 1) s = (turned h i s).set i (h c) := by
  have hl := (List.getElem?_eq_some_iff.1 hc).1
  have hg := (List.getElem?_eq_some_iff.1 hc).2
  unfold turned
  rw [List.take_add_one, hc, List.set_append_right _ _ (by simp; omega)]
  have e : i - (List.map h (List.take i s)).length = 0 := by simp; omega
  rw [e, List.drop_eq_getElem_cons hl, hg]
  simp
theorem turned_all (h : UInt8 → UInt8) (s : List UInt8) : turned h s.length s = s.map h := by simp [turned]

theorem set_same {l : List UInt8} {i : Nat} {c : UInt8} (h : l[i]? = some c) : l.set i c = l := by
  apply List.ext_getElem?
  intro j
  by_cases e : i = j
  · subst e
    rw [List.getElem?_set_self (List.getElem?_eq_some_iff.1 h).1, h]
  · rw [List.getElem?_set_ne e]
set_option maxHeartbeats 1600000 in
theorem letters_any (w : World) (s : ByteArray) (hs : s.size ≤ 1000000) (f : Nat) (d : Int) (h : UInt8 → UInt8) (hf : f + 26 ≤ 255) (hin : ∀ c : UInt8, f ≤ c.toNat → c.toNat < f + 26 → ((h c).toNat : Int) = (c.toNat : Int) + d) (hout : ∀ c : UInt8, ¬ (f ≤ c.toNat ∧ c.toNat < f + 26) → h c = c) :
    Calls Tryz.prog 72 #[.string s, .int .u8 f, .int .i64 d] w fun e w' => e = .returned (.string ⟨(s.data.toList.map h).toArray⟩) ∧ Upd w w' (fun _ => False) := by
  have KC := fun w => Lib.run_convert_string_bytes (P := Tryz.prog) w 9 121 5 s Tryz.underlying9 Tryz.underlying121 Tryz.underlying5
  have hB := Buf.made w 5 s
  have hU := Buf.world w 5 s
  obtain ⟨W, hW⟩ : ∃ W, bytesWorld w 5 s = W := ⟨_, rfl⟩
  have KW := KC w
  rw [hW] at hB hU KW
  obtain ⟨cap, hcap⟩ : ∃ cap, grownCap w s.size 0 5 = cap := ⟨_, rfl⟩
  rw [hcap] at KW
  obtain ⟨N, hN⟩ : ∃ N, s.size = N := ⟨_, rfl⟩
  have hl : s.data.toList.length = N := by rw [← hN]; exact Array.length_toList
  rw [hN] at KW hs
  obtain ⟨l, hl2⟩ : ∃ l, s.data.toList = l := ⟨_, rfl⟩
  rw [hl2] at hB hl ⊢
  have HB := hide hB
  have HU := hide hU
  have HL := hide hl
  have HIN := hide hin
  have HOUT := hide hout
  have hwf : IntKind.u8.wrap ((f : Int) + 26) = (f : Int) + 26 := by rw [IntKind.wrap_u8]; omega
  have gl := hB.lt
  clear KC hW hcap hN hB hU hl hl2 hin hout
  go_enter Tryz.func72, Tryz.ntmps72
  go_wp2_with fail
  obtain ⟨g, hg⟩ : ∃ g, w.heap.size = g := ⟨_, rfl⟩
  have HG := hide hg
  have hB0 := HB.out
  rw [hg] at hB0 gl ⊢
  have HB0 := hide hB0
  clear hg hB0 KW
  go_loopg [14] N (fun q iv wr => ∃ i : Nat, i + q = N ∧ iv = .int .i64 i ∧ Buf wr g (turned h i l) ∧ Upd w wr (fun _ => False))
  case atStart => exact ⟨0, by omega, rfl, by simpa [turned] using HB0.out, HU.out⟩
  case round =>
    obtain ⟨i, hi, rfl, hb, hu⟩ := hrel
    by_cases hiN : i < N
    · obtain ⟨c, hc⟩ : ∃ c, l[i]? = some c := ⟨_, List.getElem?_eq_getElem (by rw [HL.out]; exact hiN)⟩
      have c0 := hb.cell (turned_at (h := h) hc)
      have f0 := hb.free (j := i) (by rw [turned_len, HL.out]; exact hiN)
      have bl := hb.lt
      have hi0 : (0 : Int) ≤ (i : Int) := by omega
      have hi1 : (i : Int) < (N : Int) := by omega
      have hnx := turned_next (h := h) hc
      have hst := hb.set (i := i) (by rw [turned_len, HL.out]; exact hiN) (h c)
      rw [← hnx] at hst
      have c255 : c.toNat < 256 := c.toNat_lt
      have hg0 : w.heap.size ≤ g := Nat.le_of_eq HG.out
      have HST := hide hst
      have HBI := hide hb
      have HUI := hide hu
      have HHC := hide hc
      clear hst hb hu hnx hc
      by_cases h1 : f ≤ c.toNat
      · have d1 : decide ((f : Int) ≤ (c.toNat : Int)) = true := by simp; omega
        have d1' : decide (f ≤ c.toNat) = true := by simpa using h1
        by_cases h2 : c.toNat < f + 26
        · have d2 : decide ((c.toNat : Int) < (f : Int) + 26) = true := by simp; omega
          have hd := HIN.out c h1 h2
          have hwr : IntKind.i64.wrap ((c.toNat : Int) + d) = ((h c).toNat : Int) := by
            have := (h c).toNat_lt
            rw [← hd, IntWalk.i64_in _ (by omega)]
          have hw8 : IntKind.u8.wrap ((h c).toNat : Int) = ((h c).toNat : Int) := by
            have := (h c).toNat_lt
            rw [IntKind.wrap_u8]
            omega
          have hwi : IntKind.i64.wrap (c.toNat : Int) = (c.toNat : Int) := IntWalk.i64_in _ (by omega)
          clear h1 h2 hd
          go_wp2_with fail
          go_roundg (gk - 1)
          case measure => omega
          case rel => exact ⟨i + 1, by omega, by go_num, HST.out, HUI.out.setCell _ _ (.inl hg0)⟩
        · have d2 : decide ((c.toNat : Int) < (f : Int) + 26) = false := by simp; omega
          have ho := HOUT.out c (fun q => h2 q.2)
          have hsm : turned h (i + 1) l = turned h i l := by
            rw [turned_next HHC.out, ho]
            exact set_same (turned_at HHC.out)
          have HSM := hide hsm
          clear h1 h2 ho hsm
          go_wp2_with fail
          go_roundg (gk - 1)
          case measure => omega
          case rel => exact ⟨i + 1, by omega, by go_num, by rw [HSM.out]; exact HBI.out, HUI.out⟩
      · have d1 : decide ((f : Int) ≤ (c.toNat : Int)) = false := by simp; omega
        have d1' : decide (f ≤ c.toNat) = false := by simpa using h1
        have ho := HOUT.out c (fun q => h1 q.1)
        have hsm : turned h (i + 1) l = turned h i l := by
          rw [turned_next HHC.out, ho]
          exact set_same (turned_at HHC.out)
        have HSM := hide hsm
        clear h1 ho hsm
        go_wp2_with fail
        go_roundg (gk - 1)
        case measure => omega
        case rel => exact ⟨i + 1, by omega, by go_num, by rw [HSM.out]; exact HBI.out, HUI.out⟩
    · have hi1 : ¬ (i : Int) < (N : Int) := by omega
      have hiN2 : i = l.length := by rw [HL.out]; omega
      have hb2 : Buf wr g (l.map h) := by rw [← turned_all h l, ← hiN2]; exact hb
      have KB := hb2.back cap N (by rw [List.length_map]; exact HL.out)
      have HUI := hide hu
      clear hb hu hb2 hiN2
      go_wp2_with fail
      go_ret
      exact ⟨rfl, HUI.out⟩
theorem low_in (c : UInt8) (h1 : 65 ≤ c.toNat) (h2 : c.toNat < 65 + 26) : ((lowB c).toNat : Int) = (c.toNat : Int) + 32 := by
  unfold lowB
  rw [if_pos ⟨h1, h2⟩, UInt8.toNat_ofNat']
  omega
theorem low_out (c : UInt8) (h : ¬ (65 ≤ c.toNat ∧ c.toNat < 65 + 26)) : lowB c = c := by
  unfold lowB
  rw [if_neg h]
theorem up_in (c : UInt8) (h1 : 97 ≤ c.toNat) (h2 : c.toNat < 97 + 26) : ((upB c).toNat : Int) = (c.toNat : Int) + -32 := by
  unfold upB
  rw [if_pos ⟨h1, h2⟩, UInt8.toNat_ofNat']
  omega
theorem up_out (c : UInt8) (h : ¬ (97 ≤ c.toNat ∧ c.toNat < 97 + 26)) : upB c = c := by
  unfold upB
  rw [if_neg h]
def lowS (s : List UInt8) : List UInt8 := s.map lowB
def upS (s : List UInt8) : List UInt8 := s.map upB
theorem Lower_any (w : World) (s : List UInt8) (hs : s.length ≤ 1000000) : Calls Tryz.prog 45 #[enS s] w fun e w' => e = .returned (enS (lowS s)) ∧ Upd w w' (fun _ => False) := by
  have L := fun w => letters_any w ⟨s.toArray⟩ hs 65 32 lowB (by omega) low_in low_out
  obtain ⟨z, hz⟩ : ∃ z, s.map lowB = z := ⟨_, rfl⟩
  unfold lowS
  simp only [hz] at L ⊢
  go_enter Tryz.func45, Tryz.ntmps45
  go_wp2_with (go_at_call 72; refine Calls.mono (L _) ?_; rintro e w1 ⟨rfl, u1⟩)
  go_ret
  exact ⟨rfl, u1⟩
end Go.Proofs.YtdjpkkgcoainhaaGreatDoor
/- The walks of the reference's Lower, Upper. -/
set_option maxRecDepth 100000
namespace Go.Proofs.YtdjpkkgcoainhaaGreatDoor
open Go.RowKit Go.Lat Go.Lib

set_option maxHeartbeats 1600000 in
theorem RLower_any (w : World) (z : List UInt8) (hs0 : z.length ≤ 1000000) : Calls Tryz.prog 52 #[enS z] w fun e w' => e = .returned (enS (z.map lowB)) ∧ Upd w w' (fun _ => False) := by
  obtain ⟨s, hss⟩ : ∃ s : ByteArray, ⟨z.toArray⟩ = s := ⟨_, rfl⟩
  have hz : s.data.toList = z := by rw [← hss]
  have hs : s.size ≤ 1000000 := by rw [← hss]; exact hs0
  change Calls Tryz.prog 52 #[.string ⟨z.toArray⟩] w _
  rw [hss, ← hz]
  clear hss hz hs0
  have KC := fun w => Lib.run_convert_string_bytes (P := Tryz.prog) w 9 121 5 s Tryz.underlying9 Tryz.underlying121 Tryz.underlying5
  have hB := Buf.made w 5 s
  have hU := Buf.world w 5 s
  obtain ⟨W, hW⟩ : ∃ W, bytesWorld w 5 s = W := ⟨_, rfl⟩
  have KW := KC w
  rw [hW] at hB hU KW
  obtain ⟨cap, hcap⟩ : ∃ cap, grownCap w s.size 0 5 = cap := ⟨_, rfl⟩
  rw [hcap] at KW
  obtain ⟨N, hN⟩ : ∃ N, s.size = N := ⟨_, rfl⟩
  have hl : s.data.toList.length = N := by rw [← hN]; exact Array.length_toList
  rw [hN] at KW hs
  obtain ⟨l, hl2⟩ : ∃ l, s.data.toList = l := ⟨_, rfl⟩
  rw [hl2] at hB hl ⊢
  have HB := hide hB
  have HU := hide hU
  have HL := hide hl
  have gl := hB.lt
  clear KC hW hcap hN hB hU hl hl2
  go_enter Tryz.func52, Tryz.ntmps52
  go_wp2_with fail
  obtain ⟨g, hg⟩ : ∃ g, w.heap.size = g := ⟨_, rfl⟩
  have HG := hide hg
  have hB0 := HB.out
  rw [hg] at hB0 gl ⊢
  have HB0 := hide hB0
  clear hg hB0 KW
  go_loopg [4] N (fun q iv wr => ∃ i : Nat, i + q = N ∧ iv = .int .i64 i ∧ Buf wr g (turned lowB i l) ∧ Upd w wr (fun _ => False))
  case atStart => exact ⟨0, by omega, rfl, by simpa [turned] using HB0.out, HU.out⟩
  case round =>
    obtain ⟨i, hi, rfl, hb, hu⟩ := hrel
    by_cases hiN : i < N
    · obtain ⟨c, hc⟩ : ∃ c, l[i]? = some c := ⟨_, List.getElem?_eq_getElem (by rw [HL.out]; exact hiN)⟩
      have c0 := hb.cell (turned_at (h := lowB) hc)
      have f0 := hb.free (j := i) (by rw [turned_len, HL.out]; exact hiN)
      have bl := hb.lt
      have hi0 : (0 : Int) ≤ (i : Int) := by omega
      have hi1 : (i : Int) < (N : Int) := by omega
      have hnx := turned_next (h := lowB) hc
      have hst := hb.set (i := i) (by rw [turned_len, HL.out]; exact hiN) (lowB c)
      rw [← hnx] at hst
      have c255 : c.toNat < 256 := c.toNat_lt
      have hg0 : w.heap.size ≤ g := Nat.le_of_eq HG.out
      have HST := hide hst
      have HBI := hide hb
      have HUI := hide hu
      have HHC := hide hc
      clear hst hb hu hnx hc
      by_cases h1 : 65 ≤ c.toNat
      · have d1 : decide ((65 : Int) ≤ (c.toNat : Int)) = true := by simp; omega
        have d1' : decide (65 ≤ c.toNat) = true := by simpa using h1
        by_cases h2 : c.toNat ≤ 90
        · have d2 : decide ((c.toNat : Int) ≤ 90) = true := by simp; omega
          have d2' : decide (c.toNat ≤ 90) = true := by simpa using h2
          have hd := low_in c h1 (by omega)
          have hw8 : IntKind.u8.wrap ((c.toNat : Int) + 32) = ((lowB c).toNat : Int) := by
            rw [hd, IntKind.wrap_u8]
            omega
          clear h1 h2 hd
          go_wp2_with fail
          go_roundg (gk - 1)
          case measure => omega
          case rel => exact ⟨i + 1, by omega, by go_num, HST.out, HUI.out.setCell _ _ (.inl hg0)⟩
        · have d2 : decide ((c.toNat : Int) ≤ 90) = false := by simp; omega
          have d2' : decide (c.toNat ≤ 90) = false := by simpa using h2
          have ho := low_out c (by omega)
          have hsm : turned lowB (i + 1) l = turned lowB i l := by
            rw [turned_next HHC.out, ho]
            exact set_same (turned_at HHC.out)
          have HSM := hide hsm
          clear h1 h2 ho hsm
          go_wp2_with fail
          go_roundg (gk - 1)
          case measure => omega
          case rel => exact ⟨i + 1, by omega, by go_num, by rw [HSM.out]; exact HBI.out, HUI.out⟩
      · have d1 : decide ((65 : Int) ≤ (c.toNat : Int)) = false := by simp; omega
        have d1' : decide (65 ≤ c.toNat) = false := by simpa using h1
        have ho := low_out c (by omega)
        have hsm : turned lowB (i + 1) l = turned lowB i l := by
          rw [turned_next HHC.out, ho]
          exact set_same (turned_at HHC.out)
        have HSM := hide hsm
        clear h1 ho hsm
        go_wp2_with fail
        go_roundg (gk - 1)
        case measure => omega
        case rel => exact ⟨i + 1, by omega, by go_num, by rw [HSM.out]; exact HBI.out, HUI.out⟩
    · have hi1 : ¬ (i : Int) < (N : Int) := by omega
      have hiN2 : i = l.length := by rw [HL.out]; omega
      have hb2 : Buf wr g (l.map lowB) := by rw [← turned_all lowB l, ← hiN2]; exact hb
      have KB := hb2.back cap N (by rw [List.length_map]; exact HL.out)
      have HUI := hide hu
      clear hb hu hb2 hiN2
      go_wp2_with fail
      go_ret
      exact ⟨rfl, HUI.out⟩

end Go.Proofs.YtdjpkkgcoainhaaGreatDoor
/- The walk of the reference's texts: which of two comes first, by bytes. -/
set_option maxRecDepth 100000
namespace Go.Proofs.YtdjpkkgcoainhaaGreatDoor
open Go.RowKit Go.Lat Go.Lib

theorem lt_cons8 {x y : UInt8} {a b : List UInt8} : (x :: a) < (y :: b) ↔ x < y ∨ (x = y ∧ a < b) := List.cons_lt_cons_iff
theorem lt_drop : ∀ {a b : List UInt8} (n : Nat), a.take n = b.take n → (a < b ↔ a.drop n < b.drop n)
  | a, b, 0, _ => by simp
  | [], [], n + 1, _ => by simp
  | [], y :: b, n + 1, h => by simp at h
  | x :: a, [], n + 1, h => by simp at h
  | x :: a, y :: b, n + 1, h => by
    simp only [List.take_succ_cons, List.cons.injEq] at h
    obtain ⟨rfl, h⟩ := h
    rw [lt_cons8, List.drop_succ_cons, List.drop_succ_cons, ← lt_drop n h]
    constructor
    · rintro (q | ⟨_, q⟩)
      · exact absurd q (by simp)
      · exact q
    · exact fun q => .inr ⟨rfl, q⟩
theorem less_at {a b : List UInt8} {j : Nat} {x y : UInt8} (ht : a.take j = b.take j) (hx : a[j]? = some x) (hy : b[j]? = some y) (hne : x ≠ y) : (a < b) ↔ x < y := by
  obtain ⟨h1, e1⟩ := List.getElem?_eq_some_iff.1 hx
  obtain ⟨h2, e2⟩ := List.getElem?_eq_some_iff.1 hy
  rw [lt_drop j ht, List.drop_eq_getElem_cons h1, List.drop_eq_getElem_cons h2, e1, e2, lt_cons8]
  constructor
  · rintro (q | ⟨q, _⟩)
    · exact q
    · exact absurd q hne
  · exact .inl
theorem less_end {a b : List UInt8} {j : Nat} (ht : a.take j = b.take j) (hj : j = a.length ∨ j = b.length) (h1 : j ≤ a.length) (h2 : j ≤ b.length) : (a < b) ↔ a.length < b.length := by
  rw [lt_drop j ht]
  rcases hj with e | e
  · rw [List.drop_eq_nil_of_le (by omega)]
    by_cases h : a.length < b.length
    · obtain ⟨x, hx⟩ : ∃ x, b[j]? = some x := ⟨_, List.getElem?_eq_getElem (by omega)⟩
      obtain ⟨h3, e3⟩ := List.getElem?_eq_some_iff.1 hx
      rw [List.drop_eq_getElem_cons h3]
      exact ⟨fun _ => h, fun _ => List.nil_lt_cons _ _⟩
    · rw [List.drop_eq_nil_of_le (by omega)]
      simp [h]
  · have e0 : b.drop j = [] := List.drop_eq_nil_of_le (by omega)
    have : ¬ a.length < b.length := by omega
    rw [e0]
    simp [this]
theorem take_next {a b : List UInt8} {j : Nat} {x : UInt8} (ht : a.take j = b.take j) (hx : a[j]? = some x) (hy : b[j]? = some x) : a.take (j + 1) = b.take (j + 1) := by
  rw [List.take_add_one, List.take_add_one, ht, hx, hy]

theorem cmpS_at {a b : List UInt8} {j : Nat} {x y : UInt8} (ht : a.take j = b.take j) (hx : a[j]? = some x) (hy : b[j]? = some y) (hne : x ≠ y) : cmpS a b = if x < y then -1 else 1 := by
  unfold cmpS
  have h1 := less_at ht hx hy hne
  have h2 := less_at ht.symm hy hx (fun e => hne e.symm)
  by_cases h : x < y
  · rw [if_pos (h1.2 h), if_pos h]
  · have h' : y < x := by
      have e1 : ¬ x.toNat < y.toNat := fun q => h (UInt8.lt_iff_toNat_lt.2 q)
      have e2 : x.toNat ≠ y.toNat := fun q => hne (UInt8.toNat_inj.1 q)
      exact UInt8.lt_iff_toNat_lt.2 (by omega)
    rw [if_neg (fun q => h (h1.1 q)), if_pos (h2.2 h'), if_neg h]
theorem cmpS_end {a b : List UInt8} {j : Nat} (ht : a.take j = b.take j) (hj : j = a.length ∨ j = b.length) (h1 : j ≤ a.length) (h2 : j ≤ b.length) : cmpS a b = cmpI (a.length : Nat) (b.length : Nat) := by
  unfold cmpS cmpI
  have e1 := less_end ht hj h1 h2
  have e2 := less_end ht.symm (hj.elim .inr .inl) h2 h1
  simp only [e1, e2, Int.ofNat_lt]

theorem texts_any (w : World) (a b : List UInt8) (ha : a.length ≤ 1000000) (hb : b.length ≤ 1000000) :
    Calls Tryz.prog 53 #[enS a, enS b] w fun e w' => e = .returned (.int .i64 (cmpS a b)) ∧ ∃ n, w' = w.drewN n := by
  obtain ⟨N, hN⟩ : ∃ N, min a.length b.length = N := ⟨_, rfl⟩
  obtain ⟨sa, hsa⟩ : ∃ s : ByteArray, ⟨a.toArray⟩ = s := ⟨_, rfl⟩
  obtain ⟨sb, hsb⟩ : ∃ s : ByteArray, ⟨b.toArray⟩ = s := ⟨_, rfl⟩
  have za : sa.size = a.length := by rw [← hsa]; rfl
  have zb : sb.size = b.length := by rw [← hsb]; rfl
  have ga : ∀ (j : Nat) (h : j < sa.size) (x : UInt8), a[j]? = some x → sa[j] = x := by
    subst hsa
    intro j h x hx
    obtain ⟨h1, e1⟩ := List.getElem?_eq_some_iff.1 hx
    rw [← e1]
    rfl
  have gb : ∀ (j : Nat) (h : j < sb.size) (x : UInt8), b[j]? = some x → sb[j] = x := by
    subst hsb
    intro j h x hx
    obtain ⟨h1, e1⟩ := List.getElem?_eq_some_iff.1 hx
    rw [← e1]
    rfl
  change Calls Tryz.prog 53 #[.string ⟨a.toArray⟩, .string ⟨b.toArray⟩] w _
  rw [hsa, hsb]
  have HZA := hide za
  have HZB := hide zb
  have HGA := hide ga
  have HGB := hide gb
  have HN := hide hN
  have mA : sa.size ≤ 1000000 := by omega
  have mB : sb.size ≤ 1000000 := by omega
  have NU := fun w => numbers_any w (sa.size : Nat) (sb.size : Nat)
  clear za zb ga gb hN hsa hsb
  go_enter Tryz.func53, Tryz.ntmps53
  go_wp2_with fail
  go_loopg [5] N (fun q iv wr => (∃ n, wr = w.drewN n) ∧ ∃ j : Nat, j + q = N ∧ iv = .int .i64 j ∧ a.take j = b.take j)
  case atStart => exact ⟨⟨0, rfl⟩, 0, by omega, rfl, by simp⟩
  case round =>
    obtain ⟨hw, j, hj, rfl, ht⟩ := hrel
    have HW := hide hw
    have HT := hide ht
    clear hw ht
    by_cases hja : j < sa.size
    · have k0 : (0 : Int) ≤ (j : Int) := by omega
      have k1 : (j : Int) < (sa.size : Int) := by omega
      by_cases hjb : j < sb.size
      · have k2 : (j : Int) < (sb.size : Int) := by omega
        obtain ⟨x, hx⟩ : ∃ x, a[j]? = some x := ⟨_, List.getElem?_eq_getElem (by have := HZA.out; omega)⟩
        obtain ⟨y, hy⟩ : ∃ y, b[j]? = some y := ⟨_, List.getElem?_eq_getElem (by have := HZB.out; omega)⟩
        have ex := HGA.out j hja x hx
        have ey := HGB.out j hjb y hy
        have HX := hide hx
        have HY := hide hy
        clear hx hy
        by_cases hxy : x = y
        · subst hxy
          have d1 : decide ((x.toNat : Int) < (x.toNat : Int)) = false := by simp
          go_wp2_with fail
          go_quiet (fail)
          go_wp2_with fail
          go_quiet (fail)
          go_wp2_with fail
          go_roundg (gk - 1)
          case measure => have := HZA.out; have := HZB.out; have := HN.out; omega
          case rel =>
            obtain ⟨n, rfl⟩ := HW.out
            refine ⟨⟨_, by first | rw [World.drewN_drewN, World.drewN_drewN] | rw [World.drewN_drewN]⟩, j + 1, by have := HZA.out; have := HZB.out; have := HN.out; omega, by go_num, take_next HT.out HX.out HY.out⟩
        · have hne : x.toNat ≠ y.toNat := fun e => hxy (UInt8.toNat_inj.1 e)
          have HR := hide (cmpS_at HT.out HX.out HY.out hxy)
          by_cases hlt : x < y
          · have h3 : x.toNat < y.toNat := UInt8.lt_iff_toNat_lt.1 hlt
            have d1 : decide ((x.toNat : Int) < (y.toNat : Int)) = true := by simp; omega
            have d2 : decide (x.toNat < y.toNat) = true := by simpa using h3
            have hv : cmpS a b = -1 := by rw [HR.out, if_pos hlt]
            have HV := hide hv
            clear hxy hlt hne h3 hv
            go_wp2_with fail
            go_quiet (fail)
            go_wp2_with fail
            go_ret
            obtain ⟨n, rfl⟩ := HW.out
            exact ⟨by rw [HV.out]; rfl, _, by rw [World.drewN_drewN]⟩
          · have h3 : ¬ x.toNat < y.toNat := fun q => hlt (UInt8.lt_iff_toNat_lt.2 q)
            have d1 : decide ((x.toNat : Int) < (y.toNat : Int)) = false := by simp; omega
            have d2 : decide (x.toNat < y.toNat) = false := by simpa using h3
            have d3 : decide ((y.toNat : Int) < (x.toNat : Int)) = true := by simp; omega
            have d4 : decide (y.toNat < x.toNat) = true := by simp; omega
            have hv : cmpS a b = 1 := by rw [HR.out, if_neg hlt]
            have HV := hide hv
            clear hxy hlt hne h3 hv
            go_wp2_with fail
            go_quiet (fail)
            go_wp2_with fail
            go_quiet (fail)
            go_wp2_with fail
            go_ret
            obtain ⟨n, rfl⟩ := HW.out
            exact ⟨by rw [HV.out]; rfl, _, by rw [World.drewN_drewN, World.drewN_drewN]⟩
      · have k2 : ¬ (j : Int) < (sb.size : Int) := by omega
        have hv : cmpS a b = cmpI (sa.size : Nat) (sb.size : Nat) := by
          have := HZA.out
          have := HZB.out
          have := HN.out
          rw [HZA.out, HZB.out]
          exact cmpS_end HT.out (by omega) (by omega) (by omega)
        obtain ⟨R, hR⟩ : ∃ R, cmpI (sa.size : Nat) (sb.size : Nat) = R := ⟨_, rfl⟩
        rw [hR] at NU hv
        have HV := hide hv
        clear hv hR
        go_wp2_with (go_at_call 51; refine Calls.mono (NU _) ?_; rintro e w1 ⟨rfl, rfl⟩)
        go_ret
        exact ⟨by rw [HV.out]; rfl, HW.out⟩
    · have k2 : ¬ (j : Int) < (sa.size : Int) := by omega
      have hv : cmpS a b = cmpI (sa.size : Nat) (sb.size : Nat) := by
        have := HZA.out
        have := HZB.out
        have := HN.out
        rw [HZA.out, HZB.out]
        exact cmpS_end HT.out (by omega) (by omega) (by omega)
      obtain ⟨R, hR⟩ : ∃ R, cmpI (sa.size : Nat) (sb.size : Nat) = R := ⟨_, rfl⟩
      rw [hR] at NU hv
      have HV := hide hv
      clear hv hR
      go_wp2_with (go_at_call 51; refine Calls.mono (NU _) ?_; rintro e w1 ⟨rfl, rfl⟩)
      go_ret
      exact ⟨by rw [HV.out]; rfl, HW.out⟩
end Go.Proofs.YtdjpkkgcoainhaaGreatDoor
/- What package value's Order says; two blocks of five cells. -/
set_option maxRecDepth 100000
namespace Go.Proofs.YtdjpkkgcoainhaaGreatDoor
open Go.RowKit Go.Lat Go.Lib

theorem soundV_ok {x : Vl} (h : x.ok) : (soundV x).ok := by
  unfold soundV
  split
  · exact h
  · exact mkE_ok 3
def ord2 (a b : Vl) : Int :=
  if a.k ≠ b.k then cmpI a.k b.k else if a.k = 1 then cmpI a.n b.n else if a.k = 2 then cmpS (lowS a.t) (lowS b.t) else (if a.b then 1 else 0) - (if b.b then 1 else 0)
/-- Which of two values comes first, or the error. -/
def orderV (x y : Vl) : Int × Int :=
  if (soundV x).k = 4 then (0, (soundV x).f) else if (soundV y).k = 4 then (0, (soundV y).f) else (ord2 (besideV (soundV x) (soundV y)) (besideV (soundV y) (soundV x)), 0)
abbrev OrdPost (w : World) (p : Int × Int) : Ending → World → Prop := fun e w' => e = .returned (.tuple #[.int .i64 p.1, .int .i64 p.2]) ∧ Upd w w' (fun _ => False)
noncomputable def ordC1 : Code := match Tryz.f19.body with
  | some (.seq _ (.seq _ c)) => c
  | _ => .skip
noncomputable def ordR8 : Code := match ordC1 with
  | .seq _ (.seq r _) => r
  | _ => .skip
/-- The code behind the loop. -/
noncomputable def ordC3 : Code := match ordC1 with
  | .seq _ c => c
  | _ => .skip
noncomputable def ordC2 : Code := match ordC1 with
  | .seq _ (.seq _ c) => c
  | _ => .skip
abbrev set5 (W : World) (g : Nat) (v0 v1 v2 v3 v4 : Value) : World := ((((W.setCell ⟨g, 0, none⟩ v0).setCell ⟨g, 1, none⟩ v1).setCell ⟨g, 2, none⟩ v2).setCell ⟨g, 3, none⟩ v3).setCell ⟨g, 4, none⟩ v4
theorem set5_upd (W : World) (g : Nat) (v0 v1 v2 v3 v4 : Value) : Upd W (set5 W g v0 v1 v2 v3 v4) (fun k => k = g) :=
  (((((Upd.refl W (fun k => k = g)).setCell ⟨g, 0, none⟩ v0 (.inr rfl)).setCell ⟨g, 1, none⟩ v1 (.inr rfl)).setCell ⟨g, 2, none⟩ v2 (.inr rfl)).setCell ⟨g, 3, none⟩ v3 (.inr rfl)).setCell ⟨g, 4, none⟩ v4 (.inr rfl)
/-- Both blocks are stored into. -/
theorem set_two {W : World} {g h : Nat} {x y : Vl} (hg : W.heap[g]? = some (.cells x.cs 29 (0, 0))) (hh : W.heap[h]? = some (.cells y.cs 29 (0, 0))) (hne : g ≠ h) (a b : Vl) :
    (set5 (set5 W g (.int .i64 a.k) (.int .i64 a.n) (.string ⟨a.t.toArray⟩) (.bool a.b) (.int .i64 a.f)) h (.int .i64 b.k) (.int .i64 b.n) (.string ⟨b.t.toArray⟩) (.bool b.b) (.int .i64 b.f)).heap[g]? = some (.cells a.cs 29 (0, 0)) ∧
    (set5 (set5 W g (.int .i64 a.k) (.int .i64 a.n) (.string ⟨a.t.toArray⟩) (.bool a.b) (.int .i64 a.f)) h (.int .i64 b.k) (.int .i64 b.n) (.string ⟨b.t.toArray⟩) (.bool b.b) (.int .i64 b.f)).heap[h]? = some (.cells b.cs 29 (0, 0)) ∧
    Upd W (set5 (set5 W g (.int .i64 a.k) (.int .i64 a.n) (.string ⟨a.t.toArray⟩) (.bool a.b) (.int .i64 a.f)) h (.int .i64 b.k) (.int .i64 b.n) (.string ⟨b.t.toArray⟩) (.bool b.b) (.int .i64 b.f)) (fun k => k = g ∨ k = h) := by
  have u1 := set5_upd W g (.int .i64 a.k) (.int .i64 a.n) (.string ⟨a.t.toArray⟩) (.bool a.b) (.int .i64 a.f)
  have u2 := set5_upd (set5 W g (.int .i64 a.k) (.int .i64 a.n) (.string ⟨a.t.toArray⟩) (.bool a.b) (.int .i64 a.f)) h (.int .i64 b.k) (.int .i64 b.n) (.string ⟨b.t.toArray⟩) (.bool b.b) (.int .i64 b.f)
  have h1 := u1.get hh (fun e => hne e.symm)
  exact ⟨u2.get (block5 hg _ _ _ _ _) hne, block5 h1 _ _ _ _ _, (u1.weaken (fun _ _ e => .inl e)).then u2 (fun _ _ e => .inr e)⟩
end Go.Proofs.YtdjpkkgcoainhaaGreatDoor
