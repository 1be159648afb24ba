/- The reference's Order is the program's. -/
import Derived.Test.YtmfngdjhkpddoaaGreatDoorJ13
import Derived.Test.YtmfngdjhkpddoaaGreatDoorJ05
import Derived.Test.YtmfngdjhkpddoaaGreatDoorJ08
import Derived.Lib.ParseIntB
import Derived.Lib.CutLaws
import Derived.Lib.IndexLaws
import Derived.Lib.IndexBytes
import Derived.Lib.SlTrimSet
import Derived.Test.YtmfngdjhkpddoaaGreatDoorJ03
/- The reference's Order is the program's. -/
set_option maxRecDepth 100000
namespace Go.Proofs.YtmfngdjhkpddoaaGreatDoor
open Go.RowKit Go.Lat Go.Lib

theorem ROrder_any (w : World) (x y : Vl) (lx : x.t.length ≤ 1000000) (ly : y.t.length ≤ 1000000) : Calls Tryz.prog 41 #[x.val, y.val] w (OrdPost w (orderV x y)) := by
  have SX := fun w => RSound_any w x
  have SY := fun w => RSound_any w y
  have hlx := sound_t lx
  have hly := sound_t ly
  have px := soundV_plain (x := x)
  have py := soundV_plain (x := y)
  unfold orderV
  obtain ⟨a, ha⟩ : ∃ a, soundV x = a := ⟨_, rfl⟩
  obtain ⟨b, hb⟩ : ∃ b, soundV y = b := ⟨_, rfl⟩
  rw [ha] at SX hlx px
  rw [hb] at SY hly py
  rw [ha, hb]
  obtain ⟨ak, an, at', ab, af⟩ := a
  obtain ⟨bk, bn, bt, bb, bf⟩ := b
  obtain ⟨xk, xn, xt, xb, xf⟩ := x
  obtain ⟨yk, yn, yt, yb, yf⟩ := y
  unfold Vl.val at SX SY ⊢
  simp only at SX SY px py ⊢
  clear ha hb lx ly
  by_cases h4 : ak = 4
  · rw [if_pos h4]
    exact rordA w xk xn xt xb xf yk yn yt yb yf ak an at' ab af bk bn bt bb bf SX SY (by simpa using h4)
  · rw [if_neg h4]
    by_cases h5 : bk = 4
    · rw [if_pos h5]
      exact rordB w xk xn xt xb xf yk yn yt yb yf ak an at' ab af bk bn bt bb bf SX SY (by simpa using h4) (by simpa using h5)
    · rw [if_neg h5]
      have pa := px h4
      have pb := py h5
      have pa' := beside_plain pa pb
      have pb' := beside_plain pb pa
      have e4 : (ak == 4) = false := by simpa using h4
      have e5 : (bk == 4) = false := by simpa using h5
      by_cases h6 : ak = 0
      · have e6 : (ak == 0) = true := by simpa using h6
        have ea : besideV ⟨ak, an, at', ab, af⟩ ⟨bk, bn, bt, bb, bf⟩ = ⟨bk, 0, [], false, 0⟩ := by unfold besideV; rw [if_pos h6]
        rw [ea] at pa' ⊢
        by_cases h7 : bk = 0
        · have e7 : (bk == 0) = true := by simpa using h7
          have eb : besideV ⟨bk, bn, bt, bb, bf⟩ ⟨ak, an, at', ab, af⟩ = ⟨bk, 0, [], false, 0⟩ := by unfold besideV; rw [if_pos h7, h6, h7]
          rw [eb] at pb' ⊢
          exact rordC11 w xk xn xt xb xf yk yn yt yb yf ak an at' ab af bk bn bt bb bf SX SY e4 e5 e6 e7 hlx hly pa' pb'
        · have e7 : (bk == 0) = false := by simpa using h7
          have eb : besideV ⟨bk, bn, bt, bb, bf⟩ ⟨ak, an, at', ab, af⟩ = ⟨bk, bn, bt, bb, bf⟩ := by unfold besideV; rw [if_neg h7]
          rw [eb] at pb' ⊢
          exact rordC10 w xk xn xt xb xf yk yn yt yb yf ak an at' ab af bk bn bt bb bf SX SY e4 e5 e6 e7 hlx hly pa' pb'
      · have e6 : (ak == 0) = false := by simpa using h6
        have ea : besideV ⟨ak, an, at', ab, af⟩ ⟨bk, bn, bt, bb, bf⟩ = ⟨ak, an, at', ab, af⟩ := by unfold besideV; rw [if_neg h6]
        rw [ea] at pa' ⊢
        by_cases h7 : bk = 0
        · have e7 : (bk == 0) = true := by simpa using h7
          have eb : besideV ⟨bk, bn, bt, bb, bf⟩ ⟨ak, an, at', ab, af⟩ = ⟨ak, 0, [], false, 0⟩ := by unfold besideV; rw [if_pos h7]
          rw [eb] at pb' ⊢
          exact rordC01 w xk xn xt xb xf yk yn yt yb yf ak an at' ab af bk bn bt bb bf SX SY e4 e5 e6 e7 hlx hly pa' pb'
        · have e7 : (bk == 0) = false := by simpa using h7
          have eb : besideV ⟨bk, bn, bt, bb, bf⟩ ⟨ak, an, at', ab, af⟩ = ⟨bk, bn, bt, bb, bf⟩ := by unfold besideV; rw [if_neg h7]
          rw [eb] at pb' ⊢
          exact rordC00 w xk xn xt xb xf yk yn yt yb yf ak an at' ab af bk bn bt bb bf SX SY e4 e5 e6 e7 hlx hly pa' pb'
end Go.Proofs.YtmfngdjhkpddoaaGreatDoor
/- Where a value stands in a list (plain); rows of values that are read. -/
set_option maxRecDepth 100000
namespace Go.Proofs.YtmfngdjhkpddoaaGreatDoor
open Go.RowKit Go.Lat Go.Lib

theorem cmpI_rng (a b : Int) : cmpI a b = -1 ∨ cmpI a b = 0 ∨ cmpI a b = 1 := by
  unfold cmpI
  split
  · exact .inl rfl
  · split
    · exact .inr (.inr rfl)
    · exact .inr (.inl rfl)
theorem cmpS_rng (a b : List UInt8) : cmpS a b = -1 ∨ cmpS a b = 0 ∨ cmpS a b = 1 := by
  unfold cmpS
  split
  · exact .inl rfl
  · split
    · exact .inr (.inr rfl)
    · exact .inr (.inl rfl)
theorem ord_rng (x y : Vl) : (orderV x y).1 = -1 ∨ (orderV x y).1 = 0 ∨ (orderV x y).1 = 1 := by
  unfold orderV
  split
  · exact .inr (.inl rfl)
  · split
    · exact .inr (.inl rfl)
    · show ord2 _ _ = -1 ∨ ord2 _ _ = 0 ∨ ord2 _ _ = 1
      unfold ord2
      split
      · exact cmpI_rng _ _
      · split
        · exact cmpI_rng _ _
        · split
          · exact cmpS_rng _ _
          · generalize (besideV (soundV x) (soundV y)).b = p
            generalize (besideV (soundV y) (soundV x)).b = q
            cases p <;> cases q <;> simp
/-- Is a value one that is looked for, by a mode? -/
def fitV (m : Int) (x v : Vl) : Bool :=
  decide (v.k = x.k) && (decide ((orderV v x).2 = 0) && (if m = 0 then decide ((orderV v x).1 = 0) else if 0 < m then decide ((orderV v x).1 ≤ 0) else decide (0 ≤ (orderV v x).1)))
/-- Where it stands among the first ones. -/
def plA (m : Int) (x : Vl) (l : List Vl) : Nat → Nat
  | 0 => 0
  | i + 1 => match l[i]? with
    | none => plA m x l i
    | some v => if fitV m x v && !(decide (m = 0) && decide (plA m x l i ≠ 0)) then i + 1 else plA m x l i
def placeV (m : Int) (x : Vl) (l : List Vl) : Nat := if goodV x = true ∧ x.k ≠ 4 then plA m x l l.length else 0
/-- A row of values that is read. -/
def RdV (w : World) (va : Option Addr) (l : List Vl) : Prop :=
  ∀ i x, l[i]? = some x → ∃ g off, va = some ⟨g, off, none⟩ ∧ g < w.heap.size ∧ w.cell? ⟨g, off + i * 5, none⟩ = some (.int .i64 x.k) ∧ w.cell? ⟨g, off + i * 5 + 1, none⟩ = some (.int .i64 x.n) ∧ w.cell? ⟨g, off + i * 5 + 2, none⟩ = some (enS x.t) ∧ w.cell? ⟨g, off + i * 5 + 3, none⟩ = some (.bool x.b) ∧ w.cell? ⟨g, off + i * 5 + 4, none⟩ = some (.int .i64 x.f)
theorem RdV.upd {w w' : World} {va : Option Addr} {l : List Vl} (h : RdV w va l) (u : Upd w w' (fun _ => False)) : RdV w' va l := fun i x hx => by
  obtain ⟨g, off, e, hg, h0, h1, h2, h3, h4⟩ := h i x hx
  exact ⟨g, off, e, Nat.lt_of_lt_of_le hg u.size, (u.cell g _ hg id).trans h0, (u.cell g _ hg id).trans h1, (u.cell g _ hg id).trans h2, (u.cell g _ hg id).trans h3, (u.cell g _ hg id).trans h4⟩
theorem RdV.nil (w : World) (va : Option Addr) : RdV w va [] := fun i x hx => by simp at hx
/-- Values that may be. -/
def oksV (l : List Vl) : Prop := ∀ x ∈ l, x.ok ∧ x.t.length ≤ 1000000
end Go.Proofs.YtmfngdjhkpddoaaGreatDoor
/- The walks of the law's values, same; of package value's truth. -/
set_option maxRecDepth 100000
namespace Go.Lat
end Go.Lat
namespace Go.Proofs.YtmfngdjhkpddoaaGreatDoor
open Go.RowKit Go.Lat Go.Lib

theorem cut300 (l : List UInt8) : (⟨l.toArray⟩ : ByteArray).extract 0 (min (l.length : Int) 300).toNat = ⟨(l.take 300).toArray⟩ := by
  apply ByteArray.ext
  apply Array.ext'
  have e : (min (l.length : Int) 300).toNat = min l.length 300 := by omega
  rw [e, ByteArray.data_extract]
  simp only [Array.toList_extract, List.extract_eq_take_drop, Nat.sub_zero, List.drop_zero]
  rw [Nat.min_comm, ← List.take_eq_take_min]
/-- A value with its text cut. -/
def cutV (x : Vl) : Vl := ⟨x.k, x.n, x.t.take 300, x.b, x.f⟩

end Go.Proofs.YtmfngdjhkpddoaaGreatDoor
/- The signs of errors; the walks of package value's Fail.Text, truth. -/
set_option maxRecDepth 100000
namespace Go.Proofs.YtmfngdjhkpddoaaGreatDoor
open Go.RowKit Go.Lat Go.Lib

def signL : List (List UInt8) := [[], [35, 68, 73, 86, 47, 48, 33], [35, 78, 85, 77, 33], [35, 86, 65, 76, 85, 69, 33], [35, 82, 69, 70, 33], [35, 78, 65, 77, 69, 63], [35, 78, 47, 65], [35, 67, 89, 67, 76, 69, 33], [35, 76, 73, 78, 75, 33]]
/-- The table of the errors in signs lies in the world. -/
def Sig (w : World) : Prop := 3 < w.heap.size ∧ ∀ (f : Nat) (x : List UInt8), signL[f]? = some x → w.cell? ⟨3, f, none⟩ = some (enS x)
theorem Sig.upd {w w' : World} {S : Nat → Prop} (h : Sig w) (u : Upd w w' S) (hn : ¬ S 3) : Sig w' :=
  ⟨Nat.lt_of_lt_of_le h.1 u.size, fun f x hx => (u.cell _ f h.1 hn).trans (h.2 f x hx)⟩
/-- An error in signs. -/
def signT (f : Int) : List UInt8 := if okFail f then signL.getD f.toNat [] else []
theorem FailText_any (w : World) (hs : Sig w) (f : Int) : Calls Tryz.prog 169 #[.int .i64 f] w fun e w' => e = .returned (enS (signT f)) ∧ w' = w := by
  have I := fun w => is_any w f
  unfold signT
  cases h : okFail f with
  | false =>
    rw [h] at I
    simp only [Bool.false_eq_true, if_false]
    clear h hs
    go_enter Tryz.func169, Tryz.ntmps169
    go_wp2_with fail
    refine Calls.mono (I _) ?_
    rintro e w1 ⟨rfl, rfl⟩
    go_wp2_with fail
    go_ret
    exact ⟨rfl, rfl⟩
  | true =>
    rw [h] at I
    simp only [if_true]
    have hf : 0 < f ∧ f < 9 := by simpa [okFail] using h
    obtain ⟨k, rfl⟩ : ∃ k : Nat, f = (k : Int) := ⟨f.toNat, by omega⟩
    have hk : k < signL.length := by have := hf.2; simp [signL]; omega
    obtain ⟨x, hx⟩ : ∃ x, signL[k]? = some x := ⟨_, List.getElem?_eq_getElem hk⟩
    have c0 := hs.2 k x hx
    have hgx : signL.getD (k : Int).toNat [] = x := by
      simp only [Int.toNat_natCast, List.getD]
      rw [hx]
      rfl
    have k0 : (0 : Int) ≤ (k : Int) := by omega
    have k1 : (k : Int) < 9 := hf.2
    rw [hgx]
    have HG := hide hs.1
    clear h hs hf hk hx hgx
    go_enter Tryz.func169, Tryz.ntmps169
    go_wp2_with fail
    refine Calls.mono (I _) ?_
    rintro e w1 ⟨rfl, rfl⟩
    go_wp2_with fail
    go_ret
    exact ⟨rfl, rfl⟩

def tTrue : List UInt8 := [84, 82, 85, 69]
def tFalse : List UInt8 := [70, 65, 76, 83, 69]
/-- Does a word say true, or false? -/
def truthV (s : List UInt8) : Bool × Bool := if upS s = tTrue then (true, true) else if upS s = tFalse then (false, true) else (false, false)
end Go.Proofs.YtmfngdjhkpddoaaGreatDoor
/- The walk of package value's Read, given what Parse answers. -/
set_option maxRecDepth 100000
namespace Go.Proofs.YtmfngdjhkpddoaaGreatDoor
open Go.RowKit Go.Lat Go.Lib

/-- The first error whose signs a text is. -/
def signIs (s : List UInt8) : Option Nat := (List.range 8).find? fun i => decide (signT ((i + 1 : Nat) : Int) = s)
/-- What a text is read as, where Parse answers V, E. -/
def readV (s : List UInt8) (V E : Int) : Vl :=
  if s = [] then vZero else if E = 0 then mkN V else if (truthV s).2 = true then mkB (truthV s).1 else match signIs s with
    | some i => mkE ((i + 1 : Nat) : Int)
    | none => mkT s
end Go.Proofs.YtmfngdjhkpddoaaGreatDoor
/- The walk of package value's Show at an error. -/
set_option maxRecDepth 100000
namespace Go.Proofs.YtmfngdjhkpddoaaGreatDoor
open Go.RowKit Go.Lat Go.Lib

set_option maxHeartbeats 3200000 in
theorem ShowE_any (w : World) (hg : Sig w) (x : Vl) (hx : x.ok) (n : Int) (t : List UInt8) (b : Bool) (f : Int) (h : soundV x = ⟨4, n, t, b, f⟩) :
    Calls Tryz.prog 127 #[x.val] w fun e w' => e = .returned (enS (signT f)) ∧ Upd w w' (fun _ => False) := by
  have SA := fun w => sound_any w x hx
  rw [h] at SA
  obtain ⟨k0, n0, t0, b0, e0⟩ := x
  unfold Vl.val at SA ⊢
  simp only at SA ⊢
  have HG := hide hg
  clear h hg
  go_enter Tryz.func127, Tryz.ntmps127
  go_wp2_with fail
  refine Calls.mono (SA _) ?_
  rintro e w1 ⟨rfl, u1⟩
  have bX := u1.get (Vnew1 w (.cells (Vl.mk k0 n0 t0 b0 e0).cs 26)) id
  obtain ⟨c0, c1, c2, c3, c4⟩ := cells5 bX
  have xl := lt_at bX
  have f0 := free_at bX 0
  have f1 := free_at bX 1
  have f2 := free_at bX 2
  have f3 := free_at bX 3
  have f4 := free_at bX 4
  have HX := hide bX
  have HU := hide (((Upd.refl w _).alloc _).then u1 (fun _ _ => id))
  clear bX u1 SA
  have HS := hide (HG.out.upd HU.out id)
  have FT := fun (w' : World) (hs : Sig w') => FailText_any w' hs f
  go_wp2_with fail
  have UU := hide (upd5 (W := w1) HU.out (g := w.heap.size) (Nat.le_refl _) (.int .i64 4) (.int .i64 n) (.string ⟨t.toArray⟩) (.bool b) (.int .i64 f))
  have HS2 := HG.out.upd UU.out id
  refine Calls.mono (FT _ HS2) ?_
  rintro e w2 ⟨rfl, hw⟩
  have HW := hide hw
  clear hw FT HS2
  go_wp2_with fail
  (try simp only [Exit.inBlock, Exit.then])
  go_ret
  refine ⟨rfl, ?_⟩
  rw [HW.out]
  exact UU.out
end Go.Proofs.YtmfngdjhkpddoaaGreatDoor
/- The walk of package value's Put at a number. -/
set_option maxRecDepth 100000
namespace Go.Proofs.YtmfngdjhkpddoaaGreatDoor
open Go.RowKit Go.Lat Go.Lib

/-- A slice of bytes that reads. -/
def BtAt (w : World) (v : Value) (l : List UInt8) : Prop := Rw w 5 1 v l.length (l.map fun b => .int .u8 (b.toNat : Int))
theorem BtAt.back {w : World} {v : Value} {l : List UInt8} (h : BtAt w v l) (h0 : l ≠ []) : (convert 153 9 v).run Tryz.prog w = .ok (enS l) w := by
  rcases h.2 with ⟨rfl, e⟩ | ⟨g, off, cap, cur, rfl, hg, r⟩
  · exact absurd (List.eq_nil_of_length_eq_zero e) h0
  · refine run_convert_bytes_back w 153 9 5 ⟨g, off, none⟩ cap l Tryz.underlying153 Tryz.underlying5 Tryz.underlying9 (fun j hj => ?_)
    have := h.cells j (.int .u8 (l[j].toNat : Int)) (by simp [hj])
    rw [add_off]
    exact this
/-- The j-th byte of a number, the highest first. -/
def numB (n : Int) (j : Nat) : UInt8 := UInt8.ofNat ((n % 18446744073709551616).toNat / 2 ^ (8 * (7 - j)))
def numBs (n : Int) (j : Nat) : List UInt8 := (List.range j).map (numB n)
end Go.Proofs.YtmfngdjhkpddoaaGreatDoor
/- Plain laws on the digits of texts. -/
set_option maxRecDepth 100000
namespace Go.Lat

/-- A byte's digit; is it one? -/
def dvB (b : UInt8) : Nat := b.toNat - 48
def dgB (b : UInt8) : Bool := decide (48 ≤ b.toNat) && decide (b.toNat ≤ 57)
/-- What a text of digits stands for. -/
def dval (l : List UInt8) : Nat := val (l.reverse.map dvB)
/-- Is a text 1 to 18 digits? -/
def isD (l : List UInt8) : Bool := decide (1 ≤ l.length) && decide (l.length ≤ 18) && l.all dgB

theorem dgB_lt {b : UInt8} (h : dgB b = true) : dvB b < 10 := by
  simp [dgB] at h
  unfold dvB
  omega
theorem dval_nil : dval [] = 0 := rfl
theorem dval_append (a b : List UInt8) : dval (a ++ b) = dval a * 10 ^ b.length + dval b := by
  unfold dval
  rw [List.reverse_append, List.map_append, val_append]
  simp only [List.length_map, List.length_reverse]
  rw [Nat.mul_comm, Nat.add_comm]
theorem dval_lt (l : List UInt8) (h : l.all dgB = true) : dval l < 10 ^ l.length := by
  have := val_lt (l.reverse.map dvB) (fun d hd => by
    obtain ⟨b, hb, rfl⟩ := List.mem_map.1 hd
    exact dgB_lt (List.all_eq_true.1 h b (List.mem_reverse.1 hb)))
  simpa [dval] using this
theorem dval_one (b : UInt8) : dval [b] = dvB b := by simp [dval, val]
theorem dval_cons (b : UInt8) (l : List UInt8) : dval (b :: l) = dvB b * 10 ^ l.length + dval l := by
  have := dval_append [b] l
  rw [dval_one] at this
  exact this

theorem parse_go (M : Nat) : ∀ (l : List UInt8) (acc : Nat), l.all dgB = true → acc * 10 ^ l.length + dval l ≤ M → acc * 10 ^ l.length + dval l ≤ 9000000000000000000 → Lib.parseUintM M acc l = .ok (acc * 10 ^ l.length + dval l)
  | [], acc, _, _, _ => by simp [Lib.parseUintM, dval_nil]
  | b :: l, acc, h, h1, h2 => by
    simp only [List.all_cons, Bool.and_eq_true] at h
    have hb := h.1
    simp [dgB] at hb
    have hp : 1 ≤ 10 ^ l.length := Nat.pow_pos (by omega)
    rw [dval_cons, List.length_cons, Nat.pow_succ] at h1 h2 ⊢
    have e : acc * (10 ^ l.length * 10) + (dvB b * 10 ^ l.length + dval l) = (acc * 10 + dvB b) * 10 ^ l.length + dval l := by
      rw [Nat.add_mul, Nat.mul_assoc, Nat.mul_comm 10 (10 ^ l.length)]
      omega
    rw [e] at h1 h2 ⊢
    have hle := Nat.mul_le_mul_left (acc * 10 + dvB b) hp
    unfold Lib.parseUintM
    rw [if_pos hb]
    have ed : b.toNat - 48 = dvB b := rfl
    rw [ed, if_neg (by omega), if_neg (by omega)]
    exact parse_go M l _ h.2 h1 h2

theorem parse_digits (l : List UInt8) (h : l.all dgB = true) (h1 : 1 ≤ l.length) (h2 : l.length ≤ 18) : Lib.parseUintB 64 l = .ok (dval l) := by
  have hne : l ≠ [] := by intro e; subst e; simp at h1
  have hl := dval_lt l h
  have hp : 10 ^ l.length ≤ 10 ^ 18 := Nat.pow_le_pow_right (by omega) h2
  have e18 : (10 : Nat) ^ 18 = 1000000000000000000 := by decide
  unfold Lib.parseUintB
  rw [if_neg hne, parse_go _ l 0 h (by omega) (by omega)]
  simp

/-- Five digits of a part, noughts behind it. -/
theorem five (P : List UInt8) (h : P.all dgB = true) :
    dval ((P ++ [48, 48, 48, 48, 48]).take 5) = dval P * 100000 / 10 ^ P.length ∧ ((P ++ [48, 48, 48, 48, 48]).take 5).all dgB = true ∧ ((P ++ [48, 48, 48, 48, 48]).take 5).length = 5 := by
  have hall : (P ++ [48, 48, 48, 48, 48]).all dgB = true := by rw [List.all_append, h]; decide
  have hv : dval (P ++ [48, 48, 48, 48, 48]) = dval P * 100000 := by
    have e5 : (10 : Nat) ^ ([48, 48, 48, 48, 48] : List UInt8).length = 100000 := by decide
    rw [dval_append, show dval [48, 48, 48, 48, 48] = 0 from by decide, e5, Nat.add_zero]
  have hl : (P ++ [48, 48, 48, 48, 48]).length = P.length + 5 := by simp
  generalize P ++ [48, 48, 48, 48, 48] = Q at *
  have e := dval_append (Q.take 5) (Q.drop 5)
  rw [List.take_append_drop, List.length_drop, hl, Nat.add_sub_cancel, hv] at e
  have hd := dval_lt (Q.drop 5) (List.all_eq_true.2 fun b hb => List.all_eq_true.1 hall b (List.mem_of_mem_drop hb))
  rw [List.length_drop, hl, Nat.add_sub_cancel] at hd
  refine ⟨?_, List.all_eq_true.2 fun b hb => List.all_eq_true.1 hall b (List.mem_of_mem_take hb), by rw [List.length_take]; omega⟩
  rw [e, Nat.mul_comm, Nat.mul_add_div (Nat.pow_pos (by omega)), Nat.div_eq_of_lt hd, Nat.add_zero]
end Go.Lat
namespace Go.Proofs.YtmfngdjhkpddoaaGreatDoor
open Go.Lat

theorem rnd_ten (A B : Nat) (hB : 0 < B) : rnd A B = (10 * A / B + 5) / 10 := by
  unfold rnd
  have h1 := Nat.div_add_mod A B
  have h2 := Nat.mod_lt A hB
  have e : 10 * A / B = 10 * (A / B) + 10 * (A % B) / B := by
    conv => lhs; rw [← h1]
    rw [Nat.mul_add, Nat.mul_left_comm, Nat.mul_add_div hB]
  rw [e]
  have h3 : 10 * (A % B) / B < 10 := by
    rw [Nat.div_lt_iff_lt_mul hB]
    omega
  have h4 : 2 * (A % B) < B ↔ 10 * (A % B) / B < 5 := by
    rw [Nat.div_lt_iff_lt_mul hB]
    omega
  obtain ⟨z, hz⟩ : ∃ z, 10 * (A % B) / B = z := ⟨_, rfl⟩
  obtain ⟨q, hq⟩ : ∃ q, A / B = q := ⟨_, rfl⟩
  rw [hz] at h3 h4
  rw [hz, hq]
  by_cases h : 2 * (A % B) < B
  · rw [if_pos h]
    have := h4.1 h
    omega
  · rw [if_neg h]
    have : ¬ z < 5 := fun k => h (h4.2 k)
    omega

theorem rnd_add (W A B : Nat) (hB : 0 < B) : rnd (W * B + A) B = W + rnd A B := by
  unfold rnd
  have e1 : (W * B + A) / B = W + A / B := by rw [Nat.mul_comm, Nat.mul_add_div hB]
  have e2 : (W * B + A) % B = A % B := by rw [Nat.mul_comm, Nat.mul_add_mod]
  rw [e1, e2]
  omega

/-- The two ways of reckoning a text's number. -/
theorem two_ways (W F T : Nat) (hT : 0 < T) : rnd ((W * T + F) * 10000) T = W * 10000 + (F * 100000 / T + 5) / 10 := by
  rw [Nat.add_mul, Nat.mul_right_comm, rnd_add _ _ _ hT, rnd_ten _ _ hT]
  congr 4
  omega
end Go.Proofs.YtmfngdjhkpddoaaGreatDoor
/- The walks of fixed.run and of the reference's all, at every text. -/
set_option maxRecDepth 100000
namespace Go.Proofs.YtmfngdjhkpddoaaGreatDoor
open Go.RowKit Go.Lat Go.Shelf Go.Sort Go.Lib

theorem dgs_contains (b : UInt8) : dgs.contains b = dgB b := by
  have h : ∀ n, n < 256 → dgs.contains (UInt8.ofNat n) = dgB (UInt8.ofNat n) := by decide +kernel
  have := h b.toNat b.toNat_lt
  simpa using this

theorem dropWhile_nil (p : UInt8 → Bool) : ∀ l : List UInt8, l.dropWhile p = [] ↔ ∀ x ∈ l, p x = true
  | [] => by simp
  | b :: l => by
    have ih := dropWhile_nil p l
    cases h : p b with
    | true => simp [List.dropWhile, h, ih]
    | false => simp [List.dropWhile, h]

theorem takeWhile_all (p : UInt8 → Bool) : ∀ (l : List UInt8) (x : UInt8), x ∈ l.takeWhile p → p x = true
  | [], x, h => by simp at h
  | b :: l, x, h => by
    cases hb : p b with
    | true =>
      simp only [List.takeWhile, hb, List.mem_cons] at h
      rcases h with h | h
      · rw [h]; exact hb
      · exact takeWhile_all p l x h
    | false => simp [List.takeWhile, hb] at h

theorem trim_all (l : List UInt8) (h : l.all dgB = true) : trimS l dgs = [] := by
  have e : trimRightS l dgs = [] := by
    unfold trimRightS
    rw [List.reverse_eq_nil_iff, dropWhile_nil]
    intro x hx
    rw [dgs_contains]
    exact List.all_eq_true.1 h x (List.mem_reverse.1 hx)
  unfold trimS
  rw [e]
  rfl

theorem trim_some (l : List UInt8) (h : l.all dgB = false) : trimS l dgs ≠ [] := by
  intro e
  have hall : l.all dgB = true := by
    unfold trimS trimLeftS at e
    rw [dropWhile_nil] at e
    unfold trimRightS at e
    rw [List.all_eq_true]
    intro x hx
    have hx' : x ∈ l.reverse := List.mem_reverse.2 hx
    rw [← List.takeWhile_append_dropWhile (p := (dgs.contains ·)) (l := l.reverse)] at hx'
    rw [← dgs_contains]
    rcases List.mem_append.1 hx' with k | k
    · exact takeWhile_all _ _ _ k
    · exact e x (List.mem_reverse.2 k)
  rw [h] at hall
  cases hall

set_option maxHeartbeats 1600000 in
theorem run_any (w : World) (s : ByteArray) (hs : s.size ≤ 1000) :
    Calls Tryz.prog 149 #[.string s] w fun e w' => e = .returned (.bool (isD s.data.toList)) ∧ Upd w w' (fun _ => False) := by
  have hsz : s.data.toList.length = s.size := rfl
  have hT := fun w => Any.strings_Trim_laid Tryz.lays160 (by kernel_rfl) s ⟨#[48, 49, 50, 51, 52, 53, 54, 55, 56, 57]⟩ w (by omega) (by decide) (ascii_of_all (by decide))
  rw [show (⟨#[48, 49, 50, 51, 52, 53, 54, 55, 56, 57]⟩ : ByteArray).data.toList = dgs from rfl] at hT
  change ∀ w, Calls Tryz.prog 110 _ _ _ at hT
  unfold isD
  rw [hsz]
  by_cases h1 : 1 ≤ s.size
  · have d1 : decide ((1 : Int) ≤ (s.size : Int)) = true := by simp; omega
    have d3 : decide (1 ≤ s.size) = true := by simpa using h1
    rw [d3]
    by_cases h2 : s.size ≤ 18
    · have d2 : decide ((s.size : Int) ≤ 18) = true := by simp; omega
      have d4 : decide (s.size ≤ 18) = true := by simpa using h2
      rw [d4]
      simp only [Bool.true_and]
      cases h : s.data.toList.all dgB with
      | true =>
        rw [trim_all _ h] at hT
        clear h h1 h2
        go_enter Tryz.func149, Tryz.ntmps149
        go_wp2_with fail
        refine Calls.mono (hT _) ?_
        rintro e w1 ⟨rfl, hB⟩
        go_wp2_with fail
        go_ret
        exact ⟨rfl, Upd.of_below hB _⟩
      | false =>
        have hne := trim_some _ h
        have hr : (⟨(trimS s.data.toList dgs).toArray⟩ : ByteArray).toList ≠ [] := by
          rw [ByteArray.toList_eq]
          exact hne
        generalize (⟨(trimS s.data.toList dgs).toArray⟩ : ByteArray) = r at *
        clear h h1 h2 hne
        go_enter Tryz.func149, Tryz.ntmps149
        go_wp2_with fail
        refine Calls.mono (hT _) ?_
        rintro e w1 ⟨rfl, hB⟩
        go_wp2_with fail
        go_ret
        exact ⟨by simpa using hr, Upd.of_below hB _⟩
    · have d2 : decide ((s.size : Int) ≤ 18) = false := by simp; omega
      have d4 : decide (s.size ≤ 18) = false := by simpa using h2
      rw [d4]
      simp only [Bool.true_and, Bool.false_and]
      clear h1 h2 hT
      go_enter Tryz.func149, Tryz.ntmps149
      go_wp2_with fail
      go_ret
      exact ⟨rfl, Upd.refl _ _⟩
  · have d1 : decide ((1 : Int) ≤ (s.size : Int)) = false := by simp; omega
    have d3 : decide (1 ≤ s.size) = false := by simpa using h1
    rw [d3]
    simp only [Bool.false_and]
    clear h1 hT
    go_enter Tryz.func149, Tryz.ntmps149
    go_wp2_with fail
    go_ret
    exact ⟨rfl, Upd.refl _ _⟩

/-- A byte of a text. -/
theorem byte_list (s : ByteArray) (i : Nat) (h : i < s.size) : s.data.toList[i]? = some s[i] := by
  have h' : i < s.data.toList.length := h
  rw [List.getElem?_eq_getElem h']
  rfl

set_option maxHeartbeats 1600000 in
theorem all_any (w : World) (s : ByteArray) (hs : s.size ≤ 1000) :
    Calls Tryz.prog 135 #[.string s] w fun e w' => e = .returned (.bool (isD s.data.toList)) ∧ w' = w := by
  have hsz : s.data.toList.length = s.size := rfl
  unfold isD
  rw [hsz]
  by_cases h1 : 1 ≤ s.size
  · have d1 : decide ((s.size : Int) < 1) = false := by simp; omega
    have d1' : decide (s.size < 1) = false := decide_eq_false (by omega)
    have d3 : decide (1 ≤ s.size) = true := by simpa using h1
    rw [d3]
    by_cases h2 : s.size ≤ 18
    · have d2 : decide ((18 : Int) < (s.size : Int)) = false := by simp; omega
      have d2' : decide (18 < s.size) = false := by simp; omega
      have d4 : decide (s.size ≤ 18) = true := by simpa using h2
      rw [d4]
      simp only [Bool.true_and]
      obtain ⟨X, hX⟩ : ∃ X, s.data.toList.all dgB = X := ⟨_, rfl⟩
      rw [hX]
      have HX := hide hX
      clear hX hsz
      go_enter Tryz.func135, Tryz.ntmps135
      go_wp2_with fail
      go_loopg [3] s.size (fun q v wr => wr = w ∧ ∃ i : Nat, i + q = s.size ∧ v = .int .i64 i ∧ ∀ k, k < i → ∀ b, s.data.toList[k]? = some b → dgB b = true)
      case atStart => exact ⟨rfl, 0, by omega, rfl, fun k hk => absurd hk (by omega)⟩
      case round =>
        obtain ⟨hwr, i, hi, rfl, hall⟩ := hrel
        replace hwr := hwr.symm
        subst hwr
        have HA := hide hall
        clear hall
        by_cases hin : i < s.size
        · have c1 : decide (i < s.size) = true := by simpa using hin
          have hb := byte_list s i hin
          obtain ⟨z, hz⟩ : ∃ z, s[i].toNat = z := ⟨_, rfl⟩
          have HB : Hid (∀ b, s.data.toList[i]? = some b → b.toNat = z) := hide (fun b k => by rw [hb] at k; cases k; exact hz)
          have HB2 : Hid (z < 48 ∨ 57 < z → X = false) := hide (fun hn => by
            rw [← HX.out, Bool.eq_false_iff]
            intro hall
            have := List.all_eq_true.1 hall _ (List.mem_of_getElem? hb)
            simp [dgB] at this
            omega)
          clear hb
          by_cases z1 : z < 48
          · have e1 : decide ((z : Int) < 48) = true := by simp; omega
            have hX := HB2.out (.inl z1)
            subst hX
            go_wp2_with fail
            go_ret
            exact ⟨rfl, rfl⟩
          · have e1 : decide ((z : Int) < 48) = false := by simp; omega
            by_cases z2 : 57 < z
            · have e2 : decide ((57 : Int) < (z : Int)) = true := by simp; omega
              have hX := HB2.out (.inr z2)
              subst hX
              go_wp2_with fail
              go_ret
              exact ⟨rfl, rfl⟩
            · have e2 : decide ((57 : Int) < (z : Int)) = false := by simp; omega
              go_wp2_with fail
              go_roundg (gk - 1)
              case measure => omega
              case rel =>
                refine ⟨rfl, i + 1, by omega, by go_num, fun k hk b hb => ?_⟩
                by_cases hki : k < i
                · exact HA.out k hki b hb
                · obtain rfl : k = i := by omega
                  have := HB.out b hb
                  simp [dgB]
                  omega
        · have c1 : decide (i < s.size) = false := by simpa using hin
          have he : i = s.size := by omega
          subst he
          go_wp2_with fail
          go_ret
          refine ⟨?_, rfl⟩
          have hXt : s.data.toList.all dgB = true := by
            rw [List.all_eq_true]
            intro b hb
            obtain ⟨k, hk, e⟩ := List.mem_iff_getElem.1 hb
            exact HA.out k hk b (by rw [List.getElem?_eq_getElem hk, e])
          rw [← HX.out, hXt]
          rfl
    · have d2 : decide ((18 : Int) < (s.size : Int)) = true := by simp; omega
      have d2' : decide (18 < s.size) = true := by simp; omega
      have d4 : decide (s.size ≤ 18) = false := by simpa using h2
      rw [d4]
      simp only [Bool.true_and, Bool.false_and]
      clear h1 h2
      go_enter Tryz.func135, Tryz.ntmps135
      go_wp2_with fail
      go_ret
      exact ⟨rfl, rfl⟩
  · have d1 : decide ((s.size : Int) < 1) = true := by simp; omega
    have d1' : decide (s.size < 1) = true := decide_eq_true (by omega)
    have d3 : decide (1 ≤ s.size) = false := by simpa using h1
    rw [d3]
    simp only [Bool.false_and]
    clear h1
    go_enter Tryz.func135, Tryz.ntmps135
    go_wp2_with fail
    go_ret
    exact ⟨rfl, rfl⟩
end Go.Proofs.YtmfngdjhkpddoaaGreatDoor
