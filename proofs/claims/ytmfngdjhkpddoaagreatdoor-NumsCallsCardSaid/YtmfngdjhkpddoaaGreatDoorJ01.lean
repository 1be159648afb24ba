/- The contracts of the library that the walks take, laid at this translation (by the kit's two tools, in plain words). -/
import Derived.Shelf.Strings.Trim
import Derived.Shelf.Small.Utf8
import Derived.Shelf.Small.Bits
import Derived.Shelf.Small.Strs
import Derived.Shelf.Small.Wraps
import Derived.Shelf.Strconv.Itoa0
import Derived.Shelf.Strconv.Itoa1
import Derived.Shelf.LaysM
import Derived.Shelf.Strconv.Itoa2
import Derived.Shelf.Strconv.Itoa3
import Derived.Shelf.Strconv.Clone
import Derived.Shelf.Strconv.SyntaxError
import Derived.Shelf.LaysC
import Derived.Shelf.Strconv.ToError
import Derived.Shelf.Strconv.Lower
import Derived.Shelf.Strconv.ParseUint10
import Derived.Shelf.Strconv.ParseUint10Empty
import Derived.Shelf.Strconv.ParseUint10Any
import Derived.Shelf.Strconv.RangeError
import Derived.Shelf.Strconv.ToErrorRange
import Derived.Shelf.Strconv.ParseUintEmpty
import Derived.Shelf.Strconv.ParseUint10b64
import Derived.Shelf.Strconv.ParseUint10b32
import Derived.Shelf.Strconv.ParseUint10b16
import Derived.Shelf.Strconv.ParseUint10b8
import Derived.Shelf.Strconv.ParseUint10At
import Derived.Ground.MpProg
import Derived.Shelf.Pu.ParseUintPublic10
import Derived.Shelf.Pu.ErrVarParseUint
import Derived.Shelf.Strings.Search1
import Derived.Shelf.Strings.Search2
import Derived.Shelf.Strings.Cut
import Derived.Shelf.Strings.Shaped
import Derived.Shelf.Strings.Prefix
import Derived.Shelf.Unicode.Decode
import Derived.Shelf.Strings.Runes
import Derived.Shelf.Strings.AsciiSet
import Derived.Shelf.Bits.Mul64
import Derived.Shelf.Unicode.DecodeSlow
import Derived.Shelf.Unicode.DecodeAny
import Derived.Shelf.Unicode.DecodeLast
import Derived.Test.YtmfngdjhkpddoaaGreatDoorProg
import Derived.Test.YtmfngdjhkpddoaaGreatDoorRows
import Derived.WalkKit
import Derived.WalkSpells
import Derived.WalkLawsBesides
import Derived.Deep.QuietTactic
import Derived.BigQuiet
import Derived.Deep.RegionHeld3
import Derived.Deep.AppendLies
import Derived.StillTailTactics
import Derived.Deep.LoopGhost
import Derived.Deep.DeepCutAuto
import Derived.Deep.RegionLaw
import Derived.Lib.MinMax
import Derived.Laws.BitsAllLaws
/- The contracts of the library that the walks take, laid at this translation (by the kit's two tools, in plain words). -/
namespace Go.Proofs
open Go.Shelf
def Tryz.lays134_ren : Go.Shelf.Ren := ⟨fun | 134 => 179 | 129 => 181 | n => n, fun | 53 => 124 | 3 => 3 | 4 => 4 | 46 => 194 | 5 => 5 | 9 => 9 | n => n, fun | n => n⟩
theorem Tryz.lays134 : Go.Proofs.Lays.n134 Tryz.prog Tryz.lays134_ren := {
  mixed := by kernel_rfl
  f129 := Tryz.func181.trans (congrArg some (by kernel_rfl))
  f134 := Tryz.func179.trans (congrArg some (by kernel_rfl))
  t3 := Tryz.underlying3
  a3 := Tryz.isAgg3
  z3 := Tryz.sizeOf3
  v3 := Tryz.zeroValue3
  t4 := Tryz.underlying4
  a4 := Tryz.isAgg4
  z4 := Tryz.sizeOf4
  v4 := Tryz.zeroValue4
  t5 := Tryz.underlying5
  a5 := Tryz.isAgg5
  z5 := Tryz.sizeOf5
  v5 := Tryz.zeroValue5
  t9 := Tryz.underlying9
  a9 := Tryz.isAgg9
  z9 := Tryz.sizeOf9
  v9 := Tryz.zeroValue9
  t46 := Tryz.underlying194
  a46 := Tryz.isAgg194
  z46 := Tryz.sizeOf194
  v46 := Tryz.zeroValue194
  t53 := Tryz.underlying124
  a53 := Tryz.isAgg124
  z53 := Tryz.sizeOf124
  v53 := Tryz.zeroValue124 }
theorem Tryz.bits_LeadingZeros64 (x : Int) (w : World) (h0 : 0 ≤ x) (h1 : x ≤ 18446744073709551615) :
    Calls Tryz.prog 179 #[.int .u64 x] w fun e w' => e = .returned (.int .i64 (64 - (Lib.bitLen x.toNat : Int))) ∧ w' = w := Any.bits_LeadingZeros64 Tryz.lays134 x w h0 h1
def Tryz.lays264_ren : Go.Shelf.Ren := ⟨fun | 264 => 158 | n => n, fun | 53 => 124 | 46 => 194 | n => n, fun | n => n⟩
theorem Tryz.lays264 : Go.Proofs.Lays.n264 Tryz.prog Tryz.lays264_ren := {
  mixed := by kernel_rfl
  f264 := Tryz.func158.trans (congrArg some (by kernel_rfl))
  t46 := Tryz.underlying194
  a46 := Tryz.isAgg194
  z46 := Tryz.sizeOf194
  v46 := Tryz.zeroValue194
  t53 := Tryz.underlying124
  a53 := Tryz.isAgg124
  z53 := Tryz.sizeOf124
  v53 := Tryz.zeroValue124 }
open Go.RowKit Go.Lib in
theorem Tryz.bits_Mul64 (x y : Nat) (hx : x < 18446744073709551616) (hy : y < 18446744073709551616) (w : World) :
    Calls Tryz.prog 158 #[.int .u64 x, .int .u64 y] w fun e w' => e = .returned (.tuple #[.int .u64 ((x * y / 18446744073709551616 : Nat) : Int), .int .u64 ((x * y % 18446744073709551616 : Nat) : Int)]) ∧ w' = w := Any.bits_Mul64 Tryz.lays264 x y hx hy w
end Go.Proofs
/- Plain laws on memory used by the walks of this claim: a slice that reads as a list of cells, at any offset; append onto it and from it; reslicing. No condition. -/
namespace Go.Lat
open Go.RowKit

theorem hide {p : Prop} (h : p) : Hid p := h

/-- The slice value v, of n elements of type e (size cells each), reads as the cells xs. -/
def Rw (w : World) (e size : Nat) (v : Value) (n : Nat) (xs : List Value) : Prop :=
  xs.length = n * size ∧
  ((v = .slice none 0 0 ∧ n = 0) ∨
   ∃ g off cap cur, v = .slice (some ⟨g, off, none⟩) n cap ∧ w.heap[g]? = some (.cells cur e (0, 0)) ∧ n ≤ cap ∧ off + cap * size ≤ cur.size ∧ (cur.toList.drop off).take (n * size) = xs)

theorem Rw.nil (w : World) (e size : Nat) : Rw w e size (.slice none 0 0) 0 [] := ⟨by simp, .inl ⟨rfl, rfl⟩⟩

theorem Rw.lt {w : World} {e size : Nat} {v : Value} {n : Nat} {xs : List Value} (h : Rw w e size v n xs) : ∀ k, v.ownBlock = some k → k < w.heap.size := by
  intro k hk
  rcases h.2 with ⟨rfl, _⟩ | ⟨g, off, cap, cur, rfl, hg, _⟩
  · simp [Value.ownBlock] at hk
  · simp [Value.ownBlock] at hk
    subst hk
    exact (Array.getElem?_eq_some_iff.1 hg).1

/-- What reads in w reads in w', if its block is as it was. -/
theorem Rw.kept {w w' : World} {e size : Nat} {v : Value} {n : Nat} {xs : List Value} (h : Rw w e size v n xs)
    (hb : ∀ k, v.ownBlock = some k → w'.heap[k]? = w.heap[k]?) : Rw w' e size v n xs := by
  refine ⟨h.1, ?_⟩
  rcases h.2 with hn | ⟨g, off, cap, cur, rfl, hg, r⟩
  · exact .inl hn
  · exact .inr ⟨g, off, cap, cur, rfl, by rw [hb g rfl]; exact hg, r⟩

theorem add_off (g o j : Nat) : (⟨g, o, none⟩ : Addr).add j = ⟨g, o + j, none⟩ := by
  simp [Addr.add_lit]

theorem Rw.cells {w : World} {e size : Nat} {g off n cap : Nat} {xs : List Value} (h : Rw w e size (.slice (some ⟨g, off, none⟩) n cap) n xs) :
    ∀ j u, xs[j]? = some u → w.cell? ⟨g, off + j, none⟩ = some u := by
  intro j u hu
  rcases h.2 with ⟨hv, _⟩ | ⟨g', off', cap', cur, hv, hg, _, _, ht⟩
  · simp at hv
  · simp at hv
    obtain ⟨⟨rfl, rfl⟩, rfl⟩ := hv
    rw [cell_of_row w g _ cur e (0, 0) hg]
    rw [← ht, List.getElem?_take] at hu
    split at hu
    · rw [List.getElem?_drop] at hu; simpa using hu
    · cases hu

theorem Rw.form {w : World} {e size : Nat} {v : Value} {n : Nat} {xs : List Value} (h : Rw w e size v n xs) :
    ∃ a cap, v = .slice a n cap ∧ (a = none → n = 0 ∧ cap = 0) := by
  rcases h.2 with ⟨rfl, rfl⟩ | ⟨g, off, cap, cur, rfl, _⟩
  · exact ⟨none, 0, rfl, fun _ => ⟨rfl, rfl⟩⟩
  · exact ⟨some ⟨g, off, none⟩, cap, rfl, by simp⟩

theorem Rw.pos {w : World} {e size : Nat} {v : Value} {n : Nat} {xs : List Value} (h : Rw w e size v n xs) (hn : 0 < n) :
    ∃ g off cap, v = .slice (some ⟨g, off, none⟩) n cap ∧ g < w.heap.size ∧ ∀ j u, xs[j]? = some u → w.cell? ⟨g, off + j, none⟩ = some u := by
  rcases h.2 with ⟨rfl, rfl⟩ | ⟨g, off, cap, cur, rfl, hg, r⟩
  · omega
  · exact ⟨g, off, cap, rfl, (Array.getElem?_eq_some_iff.1 hg).1, Rw.cells h⟩

theorem drop_take_set (l news : List Value) (off k : Nat) (h : off + k + news.length ≤ l.length) :
    ((l.take (off + k) ++ news ++ l.drop (off + k + news.length)).drop off).take (k + news.length) = (l.drop off).take k ++ news := by
  rw [List.append_assoc, List.drop_append_of_le_length (by simp; omega), List.drop_take]
  have e1 : off + k - off = k := by omega
  rw [e1]
  have hl : ((l.drop off).take k).length = k := by simp; omega
  rw [List.take_append, hl]
  have e2 : k + news.length - k = news.length := by omega
  rw [e2, List.take_of_length_le (by omega)]
  simp

/-- A value that append reads: m elements, the cells news. -/
structure Src (P : Program) (w : World) (size : Nat) (x : Value) (m : Nat) (news : List Value) : Prop where
  len : ∀ w', (Builtin.lenOf x).run P w' = .ok m w'
  cells : (Builtin.firstCells size m x).run P w = .ok news.toArray w
  drew : (Builtin.firstCells size m x).run P w.drew = .ok news.toArray w.drew

section
variable {P : Program} (w : World)

theorem run_append_room_at (t u ty e : TypeId) (d : TypeDesc) (i : TypeInfo) (ht : P.underlying t = some (.slice e)) (hu : P.underlying u = some d) (hud : ∀ k, d ≠ .int k) (hi : P.info? e = some i)
    (g off sLen sCap : Nat) (cur : Array Value) (hg : w.heap[g]? = some (.cells cur e (0, 0)))
    (x : Value) (m : Nat) (news : List Value) (hx : Src P w i.size x m news) (h1 : ∀ u ∈ news, u.oneCell' = true)
    (hroom : sLen + m ≤ sCap) (hfit : off + sLen * i.size + news.length ≤ cur.size) :
    (Builtin.append_ #[t, u] ty #[.slice (some ⟨g, off, none⟩) sLen sCap, x]).run P w =
      .ok (.slice (some ⟨g, off, none⟩) (sLen + m) sCap) (w.setRow g (cur.toList.take (off + sLen * i.size) ++ news ++ cur.toList.drop (off + sLen * i.size + news.length)).toArray) := by
  have hst := run_storeCells_at P g (off + sLen * i.size) e news 0 cur w hg (by simpa using hfit) h1
  simp only [Nat.add_zero] at hst
  simp [Builtin.append_, run_underlying ht, run_underlying hu, sizeOf, typeInfo, hi, hx.len, hroom, hx.cells, Addr.add_lit, hst]

theorem run_append_grow_at (t u ty e : TypeId) (d : TypeDesc) (i : TypeInfo) (z : Value) (ht : P.underlying t = some (.slice e)) (hu : P.underlying u = some d) (hud : ∀ k, d ≠ .int k) (hi : P.info? e = some i) (hz : i.zero = some z)
    (s : Option Addr) (sLen sCap : Nat) (olds : List Value) (hs : Src P w i.size (.slice s sLen sCap) sLen olds)
    (x : Value) (m : Nat) (news : List Value) (hx : Src P w i.size x m news)
    (hg : sCap < sLen + m) (h63 : ((sLen + m : Nat) : Int) ≤ 9223372036854775807) (hfit : Builtin.nextslicecap (sLen + m) sCap * i.bytes ≤ 281474976710656) :
    (Builtin.append_ #[t, u] ty #[.slice s sLen sCap, x]).run P w =
      .ok (.slice (some ⟨w.heap.size, 0, none⟩) (sLen + m) (grownCap w (sLen + m) sCap e))
        (w.drew.alloc (.cells (olds.toArray ++ news.toArray ++ Builtin.zeroCells z.cells (grownCap w (sLen + m) sCap e - (sLen + m))) e)) := by
  have hn : ¬ (sLen + m ≤ sCap) := by omega
  have h63' : ¬ (9223372036854775807 < ((sLen : Int) + (m : Int))) := by omega
  have h48' : ¬ (281474976710656 < Builtin.nextslicecap (sLen + m) sCap * i.bytes) := by omega
  have hf := hx.drew
  have hfo := hs.drew
  simp [Builtin.append_, run_underlying ht, run_underlying hu, sizeOf, typeInfo, zeroValue, hi, hz, hx.len, hn, h63', h48', Question.forced, hf, hfo, newRow, grownCap]
  congr 2
  apply Array.ext'
  simp [List.append_assoc]

theorem Rw.src {w : World} {e size : Nat} {v : Value} {n : Nat} {xs : List Value} (h : Rw w e size v n xs) : Src P w size v n xs := by
  rcases h.2 with ⟨rfl, rfl⟩ | ⟨g, off, cap, cur, rfl, hg, r⟩
  · have : xs = [] := List.eq_nil_of_length_eq_zero (by simpa using h.1)
    subst this
    exact ⟨fun w' => by simp [Builtin.lenOf], by simp [run_firstCells_none], by simp [run_firstCells_none]⟩
  · have hc : ∀ j u, xs[j]? = some u → w.cell? ((⟨g, off, none⟩ : Addr).add j) = some u := fun j u hu => by rw [add_off]; exact h.cells j u hu
    exact ⟨fun w' => by simp [Builtin.lenOf], run_firstCells_some (P := P) w size n _ n cap xs h.1 hc, run_firstCells_some (P := P) w.drew size n _ n cap xs h.1 (by simpa using hc)⟩

/-- append onto a slice that reads, from a value that reads: the result reads as both; only the old block may have been written. -/
theorem run_append_rw (t u ty e : TypeId) (d : TypeDesc) (i : TypeInfo) (z : Value) (size bytes : Nat) (ht : P.underlying t = some (.slice e)) (hu : P.underlying u = some d) (hud : ∀ k, d ≠ .int k) (hi : P.info? e = some i) (hz : i.zero = some z)
    (hsize : i.size = size) (hby : i.bytes = bytes) (hzs : z.cells.size = size)
    (v : Value) (n : Nat) (xs : List Value) (hv : Rw w e size v n xs)
    (x : Value) (m : Nat) (news : List Value) (hx : Src P w size x m news) (hl : news.length = m * size) (h1 : ∀ u ∈ news, u.oneCell' = true)
    (hbytes : (n + m) * bytes ≤ 140737488355328) (h63 : n + m ≤ 9223372036854775807) :
    ∃ v' w', (Builtin.append_ #[t, u] ty #[v, x]).run P w = .ok v' w' ∧ Rw w' e size v' (n + m) (xs ++ news) ∧ w.grownBy w' v.ownBlock ∧
      (v'.ownBlock = v.ownBlock ∨ v'.ownBlock = some w.heap.size) ∧ (v' = .slice none 0 0 ↔ v = .slice none 0 0 ∧ m = 0) := by
  subst hsize
  subst hby
  have hlen : (xs ++ news).length = (n + m) * i.size := by rw [List.length_append, hv.1, hl, Nat.add_mul]
  have hsrc := hv.src (P := P)
  have grow : ∀ (s : Option Addr) (cap : Nat), v = .slice s n cap → cap < n + m → ∃ v' w', (Builtin.append_ #[t, u] ty #[v, x]).run P w = .ok v' w' ∧ Rw w' e i.size v' (n + m) (xs ++ news) ∧ w.grownBy w' v.ownBlock ∧
      (v'.ownBlock = v.ownBlock ∨ v'.ownBlock = some w.heap.size) ∧ v' ≠ .slice none 0 0 := by
    intro s cap hve hc
    subst hve
    have hr := run_append_grow_at (P := P) w t u ty e d i z ht hu hud hi hz s n cap xs hsrc x m news hx hc (by omega) (growslice_fits (by omega) hbytes)
    refine ⟨_, _, hr, ⟨hlen, .inr ⟨w.heap.size, 0, _, _, rfl, heap_alloc_new w.drew _, grownCap_ge w (n + m) cap e, ?_, ?_⟩⟩, ⟨rfl, rfl, rfl, by simp, fun k hk _ => _root_.Go.heap_alloc_old w.drew _ hk⟩, .inr rfl, by simp⟩
    · have hge := grownCap_ge w (n + m) cap e
      simp only [Array.size_append, List.size_toArray, size_zeroCells, hzs, hv.1, hl, ← Nat.add_mul]
      rw [Nat.zero_add]
      exact Nat.mul_le_mul_right _ (by omega)
    · simp only [Array.toList_append, List.append_assoc, List.drop_zero]
      rw [← List.append_assoc, ← hlen]
      exact List.take_left
  rcases hv.2 with ⟨rfl, rfl⟩ | ⟨g, off, cap, cur, rfl, hg, hnc, hcs, htake⟩
  · by_cases hm : m = 0
    · subst hm
      have hx0 : xs = [] := List.eq_nil_of_length_eq_zero (by simpa using hv.1)
      have hn0 : news = [] := List.eq_nil_of_length_eq_zero (by simpa using hl)
      subst hx0 hn0
      refine ⟨.slice none 0 0, w, ?_, Rw.nil w e i.size, ⟨rfl, rfl, rfl, Nat.le_refl _, fun _ _ _ => rfl⟩, .inl rfl, by simp⟩
      have hc := hx.cells
      simp [Builtin.append_, run_underlying ht, run_underlying hu, sizeOf, typeInfo, hi, hx.len, hc]
    · obtain ⟨v', w', a, b, c, d', e'⟩ := grow none 0 rfl (by omega)
      exact ⟨v', w', a, b, c, d', by simp [e', hm]⟩
  · by_cases hroom : n + m ≤ cap
    · have hle : (n + m) * i.size ≤ cap * i.size := Nat.mul_le_mul_right _ hroom
      have hfit : off + n * i.size + news.length ≤ cur.size := by rw [Nat.add_mul] at hle; omega
      have hr := run_append_room_at (P := P) w t u ty e d i ht hu hud hi g off n cap cur hg x m news hx h1 hroom hfit
      refine ⟨_, _, hr, ⟨hlen, .inr ⟨g, off, cap, _, rfl, setRow_heap w g cur _ e _ hg, hroom, ?_, ?_⟩⟩, ⟨rfl, rfl, rfl, by simp, fun k _ hk => setRow_other w g k _ (fun e => hk (by simp [Value.ownBlock, e]))⟩, .inl rfl, by simp⟩
      · simp only [List.size_toArray, List.length_append, List.length_take, List.length_drop, Array.length_toList]
        omega
      · have hnl : (n + m) * i.size = n * i.size + news.length := by rw [Nat.add_mul, hl]
        have := drop_take_set cur.toList news off (n * i.size) (by simpa using hfit)
        rw [hnl, this, htake]
    · obtain ⟨v', w', a, b, c, d', e'⟩ := grow (some ⟨g, off, none⟩) cap rfl (by omega)
      exact ⟨v', w', a, b, c, d', by simp [e']⟩

/-- At the operation. -/
theorem wp_append_rw {o : Oper} {a : Act} {K : Act → World → Prop} {Q : Exit → Act → World → Prop} (s x : Operand) (t u : TypeId)
    (ho : o.op = .call { callee := .builtin .append, args := #[s, x], argTypes := #[t, u] })
    (e : TypeId) (d : TypeDesc) (i : TypeInfo) (z : Value) (size bytes : Nat) (ht : P.underlying t = some (.slice e)) (hu : P.underlying u = some d) (hud : ∀ k, d ≠ .int k) (hi : P.info? e = some i) (hz : i.zero = some z)
    (hsize : i.size = size) (hby : i.bytes = bytes) (hzs : z.cells.size = size)
    (v : Value) (n : Nat) (xs : List Value) (hs : a.eval s = v) (hv : Rw w e size v n xs)
    (vx : Value) (m : Nat) (news : List Value) (hvx : a.eval x = vx) (hx : Src P w size vx m news) (hl : news.length = m * size) (h1 : ∀ u ∈ news, u.oneCell' = true)
    (hbytes : (n + m) * bytes ≤ 140737488355328) (h63 : n + m ≤ 9223372036854775807)
    (h : ∀ ga c w', Rw w' e size (.slice ga (n + m) c) (n + m) (xs ++ news) → w.grownBy w' v.ownBlock → ((Value.slice ga (n + m) c).ownBlock = v.ownBlock ∨ (Value.slice ga (n + m) c).ownBlock = some w.heap.size) → K (a.put o.dst (.slice ga (n + m) c)) w') : o.wp P a w K Q := by
  obtain ⟨v', w', hr, h2, h3, h4, h5⟩ := run_append_rw (P := P) w t u o.type e d i z size bytes ht hu hud hi hz hsize hby hzs v n xs hv vx m news hx hl h1 hbytes h63
  obtain ⟨ga, c, rfl, _⟩ := h2.form
  unfold Oper.wp execOp
  simp only [ho, resolve, invoke, builtin, Sem.run_bind, Sem.run_pure, Result.andThen_ok, List.map_toArray, List.map_cons, List.map_nil, hs, hvx, hr]
  exact h ga c w' h2 h3 h4

/-- At the list of a plain region's operations. -/
theorem wpList_append_rw {ops : Array Oper} {rest : List Oper} {o : Oper} {a : Act} {Q : Exit → Act → World → Prop} (hgd : o.guard = none) (s x : Operand) (t u : TypeId)
    (ho : o.op = .call { callee := .builtin .append, args := #[s, x], argTypes := #[t, u] })
    (e : TypeId) (d : TypeDesc) (i : TypeInfo) (z : Value) (size bytes : Nat) (ht : P.underlying t = some (.slice e)) (hu : P.underlying u = some d) (hud : ∀ k, d ≠ .int k) (hi : P.info? e = some i) (hz : i.zero = some z)
    (hsize : i.size = size) (hby : i.bytes = bytes) (hzs : z.cells.size = size)
    (v : Value) (n : Nat) (xs : List Value) (hs : a.eval s = v) (hv : Rw w e size v n xs)
    (vx : Value) (m : Nat) (news : List Value) (hvx : a.eval x = vx) (hx : Src P w size vx m news) (hl : news.length = m * size) (h1 : ∀ u ∈ news, u.oneCell' = true)
    (hbytes : (n + m) * bytes ≤ 140737488355328) (h63 : n + m ≤ 9223372036854775807)
    (h : ∀ ga c w', Rw w' e size (.slice ga (n + m) c) (n + m) (xs ++ news) → w.grownBy w' v.ownBlock → ((Value.slice ga (n + m) c).ownBlock = v.ownBlock ∨ (Value.slice ga (n + m) c).ownBlock = some w.heap.size) → wpList P ops Q rest (a.put o.dst (.slice ga (n + m) c)) w') : wpList P ops Q (o :: rest) a w :=
  wpList_plain hgd fun _ hK => wp_append_rw w s x t u ho e d i z size bytes ht hu hud hi hz hsize hby hzs v n xs hs hv vx m news hvx hx hl h1 hbytes h63 fun ga c w' h2 h3 h4 => hK _ _ (h ga c w' h2 h3 h4)

end

/-- w' is w but for new blocks and the blocks of S. -/
structure Upd (w w' : World) (S : Nat → Prop) : Prop where
  os : w'.os = w.os
  tape : w'.tape = w.tape
  output : w'.output = w.output
  size : w.heap.size ≤ w'.heap.size
  block : ∀ k, k < w.heap.size → ¬ S k → w'.heap[k]? = w.heap[k]?

theorem Upd.refl (w : World) (S : Nat → Prop) : Upd w w S := ⟨rfl, rfl, rfl, Nat.le_refl _, fun _ _ _ => rfl⟩
theorem Upd.trans {a b c : World} {S T : Nat → Prop} (h : Upd a b S) (k : Upd b c T) : Upd a c (fun i => S i ∨ T i) :=
  ⟨k.os.trans h.os, k.tape.trans h.tape, k.output.trans h.output, Nat.le_trans h.size k.size,
    fun i hi hn => (k.block i (Nat.lt_of_lt_of_le hi h.size) (fun e => hn (.inr e))).trans (h.block i hi (fun e => hn (.inl e)))⟩
theorem Upd.weaken {a b : World} {S T : Nat → Prop} (h : Upd a b S) (hst : ∀ k, k < a.heap.size → S k → T k) : Upd a b T :=
  ⟨h.os, h.tape, h.output, h.size, fun k hk hn => h.block k hk (fun e => hn (hst k hk e))⟩
/-- Two steps, of which the second may touch what is new. -/
theorem Upd.then {a b c : World} {S T : Nat → Prop} (h : Upd a b S) (k : Upd b c T) (ht : ∀ i, i < a.heap.size → T i → S i) : Upd a c S :=
  (h.trans k).weaken (fun i hi e => e.elim id (ht i hi))
theorem Upd.drewN {a w : World} {S : Nat → Prop} (h : Upd a w S) (n : Nat) : Upd a (w.drewN n) S := ⟨h.os, h.tape, h.output, h.size, h.block⟩
theorem Upd.drew {a w : World} {S : Nat → Prop} (h : Upd a w S) : Upd a w.drew S := ⟨h.os, h.tape, h.output, h.size, h.block⟩
theorem Upd.alloc {a w : World} {S : Nat → Prop} (h : Upd a w S) (o : Obj) : Upd a (w.alloc o) S :=
  h.then (T := fun _ => False) ⟨rfl, rfl, rfl, by simp, fun k hk _ => Below.heap_alloc _ _ _ hk⟩ (fun _ _ => False.elim)
theorem Upd.setCell {a w : World} {S : Nat → Prop} (h : Upd a w S) (p : Addr) (v : Value) (hp : a.heap.size ≤ p.block ∨ S p.block) : Upd a (w.setCell p v) S :=
  h.then (T := fun k => k = p.block) ⟨rfl, rfl, rfl, by simp [World.setCell], fun k _ hn => Below.heap_setCell _ _ _ _ hn⟩
    (fun i hi e => by subst e; rcases hp with hp | hp; · omega
                      · exact hp)
theorem Upd.grown {a w w' : World} {S : Nat → Prop} (h : Upd a w S) {row : Option Nat} (g : w.grownBy w' row) (hr : ∀ k, row = some k → a.heap.size ≤ k ∨ S k) : Upd a w' S :=
  h.then (T := fun k => row = some k) ⟨g.os, g.tape, g.output, g.size, fun k hk hn => g.block k hk (fun e => hn e.symm)⟩
    (fun i hi e => by rcases hr i e with hp | hp; · omega
                      · exact hp)
theorem Upd.below {w w' : World} (h : Upd w w' (fun _ => False)) : Below w.heap.size w w' := ⟨h.os, h.tape, h.output, h.size, fun k hk => h.block k hk id⟩
theorem Upd.of_below {w w' : World} (h : Below w.heap.size w w') (S : Nat → Prop) : Upd w w' S := ⟨h.os, h.tape, h.output, h.size, fun k hk _ => h.block k hk⟩
theorem Upd.rw {w w' : World} {S : Nat → Prop} (h : Upd w w' S) {e size : Nat} {v : Value} {n : Nat} {xs : List Value} (hr : Rw w e size v n xs) (hd : ∀ k, v.ownBlock = some k → ¬ S k) : Rw w' e size v n xs :=
  hr.kept fun k hk => h.block k (hr.lt k hk) (hd k hk)
theorem Upd.cell {w w' : World} {S : Nat → Prop} (h : Upd w w' S) (b j : Nat) (hlt : b < w.heap.size) (hn : ¬ S b) : w'.cell? ⟨b, j, none⟩ = w.cell? ⟨b, j, none⟩ :=
  World.cell?_of_block (a := ⟨b, j, none⟩) (h.block b hlt hn)
theorem Upd.get {w w' : World} {S : Nat → Prop} (h : Upd w w' S) {b : Nat} {o : Obj} (hb : w.heap[b]? = some o) (hn : ¬ S b) : w'.heap[b]? = some o :=
  (h.block b (Array.getElem?_eq_some_iff.1 hb).1 hn).trans hb
theorem Rw.drewN {w : World} {e size : Nat} {v : Value} {n : Nat} {xs : List Value} (h : Rw w e size v n xs) (k : Nat) : Rw (w.drewN k) e size v n xs := h
theorem Rw.drew {w : World} {e size : Nat} {v : Value} {n : Nat} {xs : List Value} (h : Rw w e size v n xs) : Rw w.drew e size v n xs := h
theorem Rw.alloc {w : World} {e size : Nat} {v : Value} {n : Nat} {xs : List Value} (h : Rw w e size v n xs) (o : Obj) : Rw (w.alloc o) e size v n xs :=
  h.kept fun k hk => Below.heap_alloc _ _ _ (h.lt k hk)
theorem Rw.setCell {w : World} {e size : Nat} {v : Value} {n : Nat} {xs : List Value} (h : Rw w e size v n xs) (p : Addr) (u : Value) (hp : v.ownBlock ≠ some p.block) : Rw (w.setCell p u) e size v n xs :=
  h.kept fun k hk => Below.heap_setCell _ _ _ _ (fun e => hp (by rw [hk, e]))
theorem Rw.grown {w w' : World} {e size : Nat} {v : Value} {n : Nat} {xs : List Value} (h : Rw w e size v n xs) {row : Option Nat} (g : w.grownBy w' row) (hp : v.ownBlock = none ∨ v.ownBlock ≠ row) : Rw w' e size v n xs :=
  h.kept fun k hk => g.block k (h.lt k hk) (fun e => by rcases hp with hp | hp
                                                        · rw [hp] at hk; cases hk
                                                        · exact hp (hk.trans e))
/-- A block that has just been laid, as a source. -/
theorem Rw.made (w : World) (cur : Array Value) (e size n : Nat) (hs : cur.size = n * size) : Rw (w.alloc (.cells cur e)) e size (.slice (some ⟨w.heap.size, 0, none⟩) n n) n cur.toList :=
  ⟨by simpa using hs, .inr ⟨w.heap.size, 0, n, cur, rfl, heap_alloc_new w _, Nat.le_refl _, by omega, by simp; rw [← hs]; exact List.take_of_length_le (by simp)⟩⟩

theorem cell_at {w : World} {b : Nat} {cs : Array Value} {t : TypeId} (h : w.heap[b]? = some (.cells cs t (0, 0))) (j : Nat) (v : Value) (hj : cs[j]? = some v) : w.cell? ⟨b, j, none⟩ = some v := by
  rw [cell_of_row w b j cs t (0, 0) h]; exact hj
theorem free_at {w : World} {b : Nat} {cs : Array Value} {t : TypeId} (h : w.heap[b]? = some (.cells cs t (0, 0))) (j : Nat) : w.frozen? ⟨b, j, none⟩ = false := by
  simp [World.frozen?, h]
theorem lt_at {w : World} {b : Nat} {o : Obj} (h : w.heap[b]? = some o) : b < w.heap.size := (Array.getElem?_eq_some_iff.1 h).1
theorem block_setCell {w : World} {b : Nat} {cs : Array Value} {t : TypeId} {fr : Nat × Nat} (h : w.heap[b]? = some (.cells cs t fr)) (j : Nat) (v : Value) : (w.setCell ⟨b, j, none⟩ v).heap[b]? = some (.cells (cs.setIfInBounds j v) t fr) := by
  simp [World.setCell, Array.getElem?_modify, h]
theorem block_alloc {w : World} {b : Nat} {o : Obj} (h : w.heap[b]? = some o) (o' : Obj) : (w.alloc o').heap[b]? = some o := by
  rw [Below.heap_alloc _ _ _ (lt_at h)]; exact h
theorem cells1 {w : World} {b : Nat} {v0 : Value} {t : TypeId} (h : w.heap[b]? = some (.cells #[v0] t (0, 0))) : w.cell? ⟨b, 0, none⟩ = some v0 := cell_at h 0 v0 rfl
theorem cells2 {w : World} {b : Nat} {v0 v1 : Value} {t : TypeId} (h : w.heap[b]? = some (.cells #[v0, v1] t (0, 0))) : w.cell? ⟨b, 0, none⟩ = some v0 ∧ w.cell? ⟨b, 1, none⟩ = some v1 := ⟨cell_at h 0 v0 rfl, cell_at h 1 v1 rfl⟩
theorem cells5 {w : World} {b : Nat} {v0 v1 v2 v3 v4 : Value} {t : TypeId} (h : w.heap[b]? = some (.cells #[v0, v1, v2, v3, v4] t (0, 0))) : w.cell? ⟨b, 0, none⟩ = some v0 ∧ w.cell? ⟨b, 1, none⟩ = some v1 ∧ w.cell? ⟨b, 2, none⟩ = some v2 ∧ w.cell? ⟨b, 3, none⟩ = some v3 ∧ w.cell? ⟨b, 4, none⟩ = some v4 := ⟨cell_at h 0 v0 rfl, cell_at h 1 v1 rfl, cell_at h 2 v2 rfl, cell_at h 3 v3 rfl, cell_at h 4 v4 rfl⟩
/-- x[:k] of a slice that reads. -/
theorem Rw.slice_to {P : Program} {w : World} {e size : Nat} {v : Value} {n : Nat} {xs : List Value} (h : Rw w e size v n xs) (t : TypeId) (i : TypeInfo) (ht : P.underlying t = some (.slice e)) (hi : P.info? e = some i) (hsz : i.size = size)
    (k : Nat) (hk : k ≤ n) :
    ∃ a c, (∀ w', (Instr.slice t v none (some (.int .i64 k)) none).run P w' = .ok (.slice a k c) w') ∧ Rw w e size (.slice a k c) k (xs.take (k * size)) ∧ (Value.slice a k c).ownBlock = v.ownBlock := by
  have hel : P.elem t = e := by simp [Program.elem, ht]
  have run : ∀ (s0 : Option Addr) (cap : Nat) (w' : World), k ≤ cap → (Instr.slice t (.slice s0 n cap) none (some (.int .i64 k)) none).run P w' = .ok (sliced s0 0 k cap size) w' := by
    intro s0 cap w' hkc
    rw [run_slice_h w' t s0 n cap (by rw [hel]; exact ht) .i64 k (by omega) (by omega), hel]
    simp [sizeOf, typeInfo, hi, hsz]
  have hkn : k * size ≤ n * size := Nat.mul_le_mul_right _ hk
  have hl : (xs.take (k * size)).length = k * size := by rw [List.length_take, h.1]; omega
  rcases h.2 with ⟨rfl, rfl⟩ | ⟨g, off, cap, cur, rfl, hg, hnc, hcs, htake⟩
  · have hk0 : k = 0 := by omega
    subst hk0
    exact ⟨none, 0, fun w' => by rw [run _ _ _ (by omega)]; simp [sliced], by simpa using Rw.nil w e size, rfl⟩
  · refine ⟨some ⟨g, off, none⟩, cap, fun w' => by rw [run _ _ _ (by omega)]; simp [sliced, Addr.add_lit], ⟨hl, .inr ⟨g, off, cap, cur, rfl, hg, by omega, hcs, ?_⟩⟩, rfl⟩
    rw [← htake, List.take_take, Nat.min_eq_left hkn]

end Go.Lat
/- Plain laws on the division of two words by one, in two steps of half a word. -/
set_option maxRecDepth 100000
namespace Go.Lat

theorem kn_start (y1 y0 u d : Nat) (hy1 : 4294967296 ≤ 2 * y1) (h0 : y0 < 4294967296) (hd : d < 4294967296) (hu : u < y1 * 4294967296 + y0) :
    (u * 4294967296 + d) / (y1 * 4294967296 + y0) ≤ u / y1 ∧ u / y1 ≤ 4294967297 := by
  constructor
  · have h := Nat.div_mul_le_self (u * 4294967296 + d) (y1 * 4294967296 + y0)
    generalize (u * 4294967296 + d) / (y1 * 4294967296 + y0) = Q at *
    rw [Nat.le_div_iff_mul_le (by omega)]
    rw [Nat.mul_add, ← Nat.mul_assoc] at h
    generalize Q * y1 = X at *
    generalize Q * y0 = Z at *
    omega
  · have : u / y1 < 4294967298 := by
      rw [Nat.div_lt_iff_lt_mul (by omega)]
      omega
    omega

theorem kn_test (y1 y0 u d q r : Nat) (h : q * y1 + r = u) : q * (y1 * 4294967296 + y0) ≤ u * 4294967296 + d ↔ q * y0 ≤ 4294967296 * r + d := by
  rw [Nat.mul_add, ← Nat.mul_assoc]
  generalize q * y1 = X at *
  generalize q * y0 = Z at *
  omega

theorem kn_more (y1 y0 u d q r : Nat) (h : q * y1 + r = u) (hd : d < 4294967296) (hu : u < y1 * 4294967296 + y0) (ht : 4294967296 ≤ q ∨ 4294967296 * r + d < q * y0) :
    (u * 4294967296 + d) / (y1 * 4294967296 + y0) < q := by
  rw [Nat.div_lt_iff_lt_mul (by omega)]
  rcases ht with ht | ht
  · have h1 := Nat.mul_le_mul_right (y1 * 4294967296 + y0) ht
    omega
  · have := (kn_test y1 y0 u d q r h)
    omega

theorem kn_done (y1 y0 u d q r : Nat) (h : q * y1 + r = u) (hu : u < y1 * 4294967296 + y0) (ht : q * y0 ≤ 4294967296 * r + d) (hQ : (u * 4294967296 + d) / (y1 * 4294967296 + y0) ≤ q) :
    q = (u * 4294967296 + d) / (y1 * 4294967296 + y0) := by
  refine Nat.le_antisymm ?_ hQ
  rw [Nat.le_div_iff_mul_le (by omega)]
  exact (kn_test y1 y0 u d q r h).2 ht

theorem kn_break (y0 q r d : Nat) (h0 : y0 < 4294967296) (hq : q ≤ 4294967296) (hr : 4294967296 ≤ r) : q * y0 ≤ 4294967296 * r + d := by
  have := Nat.mul_le_mul_right y0 hq
  omega

/-- Two steps of half a word. -/
theorem kn_two (Y N d0 : Nat) (hY : 0 < Y) : (N * 4294967296 + d0) / Y = N / Y * 4294967296 + (N % Y * 4294967296 + d0) / Y ∧ (N * 4294967296 + d0) % Y = (N % Y * 4294967296 + d0) % Y := by
  have h1 := Nat.div_add_mod N Y
  obtain ⟨Q, hQ⟩ : ∃ Q, N / Y = Q := ⟨_, rfl⟩
  obtain ⟨R, hR⟩ : ∃ R, N % Y = R := ⟨_, rfl⟩
  rw [hQ, hR] at h1 ⊢
  have e : N * 4294967296 + d0 = R * 4294967296 + d0 + Y * (Q * 4294967296) := by
    rw [← h1, ← Nat.mul_assoc]
    obtain ⟨X, hX⟩ : ∃ X, Y * Q = X := ⟨_, rfl⟩
    rw [hX]
    omega
  rw [e]
  constructor
  · rw [Nat.add_mul_div_left _ _ hY]
    omega
  · rw [Nat.add_mul_mod_self_left]

/-- What is moved left. -/
theorem kn_norm (h l z S T : Nat) (hST : S * T = 18446744073709551616) (hz : h < z) (hl : l < 18446744073709551616) :
    (h * 18446744073709551616 + l) * S = (h * S + l / T) * 18446744073709551616 + l * S % 18446744073709551616 ∧ h * S + l / T < z * S ∧ l / T < S := by
  have hT : 0 < T := by rcases Nat.eq_zero_or_pos T with e | e; · subst e; simp at hST
                        · exact e
  have hS : 0 < S := by rcases Nat.eq_zero_or_pos S with e | e; · subst e; simp at hST
                        · exact e
  have hLS : l / T < S := by rw [Nat.div_lt_iff_lt_mul hT, hST]; exact hl
  have h1 := Nat.div_add_mod l T
  have h2 := Nat.mod_lt l hT
  have h3 : l * S = l / T * 18446744073709551616 + l % T * S := by
    conv => lhs; rw [← h1]
    rw [Nat.add_mul, Nat.mul_comm T, Nat.mul_assoc, Nat.mul_comm T S, hST]
  have h4 : l % T * S < 18446744073709551616 := by
    rw [← hST, Nat.mul_comm S]
    exact Nat.mul_lt_mul_of_pos_right h2 hS
  refine ⟨?_, ?_, hLS⟩
  · rw [h3, Nat.add_comm (l / T * _), Nat.add_mul_mod_self_right, Nat.mod_eq_of_lt h4, Nat.add_mul, h3, Nat.add_mul, Nat.mul_assoc, Nat.mul_comm _ S, ← Nat.mul_assoc]
    omega
  · have := Nat.mul_le_mul_right S (show h + 1 ≤ z by omega)
    rw [Nat.add_mul] at this
    omega

theorem kn_back (M z S : Nat) (hS : 0 < S) : M * S / (z * S) = M / z ∧ M * S % (z * S) / S = M % z := by
  refine ⟨Nat.mul_div_mul_right _ _ hS, ?_⟩
  rw [Nat.mul_mod_mul_right, Nat.mul_div_cancel _ hS]
end Go.Lat
