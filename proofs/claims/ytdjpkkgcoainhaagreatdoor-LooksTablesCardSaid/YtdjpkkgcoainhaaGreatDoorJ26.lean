/- The walk of LooksPlaces. -/
import Derived.Test.YtdjpkkgcoainhaaGreatDoorJ25
import Derived.Test.YtdjpkkgcoainhaaGreatDoorJ23
import Derived.Test.YtdjpkkgcoainhaaGreatDoorJ01
import Derived.ProofKit
import Derived.Deep.Slices
import Derived.Deep.Fields
import Derived.ChangeSame
import Derived.Test.YtdjpkkgcoainhaaGreatDoorRows
import Derived.OpenShut
import Derived.LaidMore
import Derived.Lay
import Derived.Stop.Joined
import Derived.ChangeMaps5
/- The walk of LooksPlaces. -/
set_option maxRecDepth 100000
namespace Go.Proofs.YtdjpkkgcoainhaaGreatDoor
open Go.RowKit Go.Lat Go.Lib

/-- Numbers that Go may have. -/
structure okK (x : Vl) : Prop where
  k : i64ok x.k
  n : i64ok x.n
  f : i64ok x.f
theorem cutV_ok {x : Vl} (h : okK x) : (cutV x).ok ∧ (cutV x).t.length ≤ 1000000 := by
  have e : (cutV x).t.length ≤ 300 := by show (x.t.take 300).length ≤ 300; rw [List.length_take]; omega
  exact ⟨⟨h.k, h.n, Nat.le_trans e (by decide), h.f⟩, by omega⟩
theorem cutL_oks {l : List Vl} (h : ∀ x ∈ l, okK x) : oksV (cutL l) := fun y hy => by
  unfold cutL at hy
  rw [List.mem_map] at hy
  obtain ⟨x, hx, rfl⟩ := hy
  exact cutV_ok (h x (List.mem_of_mem_take hx))
theorem cutL_len (l : List Vl) : (cutL l).length ≤ 40 := by unfold cutL; rw [List.length_map, List.length_take]; omega
set_option maxHeartbeats 6400000 in
theorem LooksPlaces_any (w : World) (x : Vl) (hx : okK x) (a : Option Addr) (cap : Nat) (l : List Vl) (hlc : l.length ≤ cap) (hl : ∀ x ∈ l, okK x) (hr : RdV w a l) (mode : Int) :
    Calls Tryz.prog 3 #[x.val, .slice a l.length cap, .int .i64 mode] w fun e w' => e = .returned (.bool true) ∧ Upd w w' (fun _ => False) := by
  have hxo := cutV_ok hx
  have hlo := cutL_oks hl
  have hll := cutL_len l
  obtain ⟨L, hL⟩ : ∃ L, cutL l = L := ⟨_, rfl⟩
  obtain ⟨xk, xn, xt0, xb, xf⟩ := x
  obtain ⟨xt, hxt⟩ : ∃ t, xt0.take 300 = t := ⟨_, rfl⟩
  have hcv : cutV ⟨xk, xn, xt0, xb, xf⟩ = ⟨xk, xn, xt, xb, xf⟩ := by unfold cutV; rw [hxt]
  rw [hcv] at hxo
  have VA := fun w => lawvals_any w xk xn xt0 xt xb xf hxt
  have LI := fun W h => list12_any W a cap l hlc h
  rw [hL] at LI hlo hll
  have PL := fun W va vc m h => Place_any W ⟨xk, xn, xt, xb, xf⟩ L va vc m hxo.1 hxo.2 hlo (by omega) h
  have RP := fun W va vc m h => RPlace_any W ⟨xk, xn, xt, xb, xf⟩ L va vc m hxo.2 hlo (by omega) h
  have HR := hide hr
  have HU0 : Hid (Upd w (w.alloc (.cells #[.int .i64 xk, .int .i64 xn, enS xt0, .bool xb, .int .i64 xf] 23)) (fun _ => False)) := hide ((Upd.refl w _).alloc _)
  obtain ⟨LL, hLL⟩ : ∃ n, L.length = n := ⟨_, rfl⟩
  rw [hLL] at LI hll PL RP
  unfold Vl.val at PL RP ⊢
  simp only at PL RP ⊢
  have HPL := hide PL
  have HRP := hide RP
  have HLL := hide hLL
  clear hxt hcv hxo hlo hL hl hr hlc PL RP hx hLL
  go_enter Tryz.func3, Tryz.ntmps3
  go_wp2_with fail
  refine Calls.mono (VA _) ?_
  rintro e w1 ⟨rfl, u1⟩
  have HA1 := hide (block_alloc (Vnew1 w1 (.cells #[.int .i64 xk, .int .i64 xn, enS xt, .bool xb, .int .i64 xf] 29)) (.cells #[.int .i64 xk, .int .i64 xn, enS xt, .bool xb, .int .i64 xf] 30))
  have HB1 := hide (Vnew2 w1 (.cells #[.int .i64 xk, .int .i64 xn, enS xt, .bool xb, .int .i64 xf] 29) (.cells #[.int .i64 xk, .int .i64 xn, enS xt, .bool xb, .int .i64 xf] 30))
  have HU1 := hide (((HU0.out.then u1 (fun _ _ => id)).alloc (.cells #[.int .i64 xk, .int .i64 xn, enS xt, .bool xb, .int .i64 xf] 29)).alloc (.cells #[.int .i64 xk, .int .i64 xn, enS xt, .bool xb, .int .i64 xf] 30))
  clear u1 VA
  go_wp2_with fail
  refine Calls.mono (LI _ (HR.out.upd HU1.out)) ?_
  rintro e w2 ⟨v1, v2, rfl, r1, r2, o1, o2, u2⟩
  obtain ⟨pa, pc, rfl, -⟩ := Rw.form r1
  obtain ⟨qa, qc, rfl, -⟩ := Rw.form r2
  have u2' := u2.alloc (.cells #[.int .i64 mode, .int .i64 0, .int .i64 1, .int .i64 (-1)] 3)
  have HA2 := hide (u2'.get HA1.out id)
  have HB2 := hide (u2'.get HB1.out id)
  have HU2 := hide (HU1.out.then u2' (fun _ _ => id))
  have HP2 := hide ((rdV_of HLL.out r1).upd ((Upd.refl w2 (fun _ => False)).alloc (.cells #[.int .i64 mode, .int .i64 0, .int .i64 1, .int .i64 (-1)] 3)))
  have HQ2 := hide ((rdV_of HLL.out r2).upd ((Upd.refl w2 (fun _ => False)).alloc (.cells #[.int .i64 mode, .int .i64 0, .int .i64 1, .int .i64 (-1)] 3)))
  have HM2 := hide (Vnew1 w2 (.cells #[.int .i64 mode, .int .i64 0, .int .i64 1, .int .i64 (-1)] 3))
  clear u2 u2' r1 r2 o1 o2 LI HA1 HB1 HU0
  go_wp2_with fail
  obtain ⟨W, hW⟩ : ∃ W, w2.alloc (.cells #[.int .i64 mode, .int .i64 0, .int .i64 1, .int .i64 (-1)] 3) = W := ⟨_, rfl⟩
  obtain ⟨G, hG⟩ : ∃ g, w2.heap.size = g := ⟨_, rfl⟩
  obtain ⟨X, hX⟩ : ∃ g, w1.heap.size = g := ⟨_, rfl⟩
  rw [hG] at HM2
  rw [hX] at HA2 HB2
  rw [hG, hX]
  rw [hW] at HA2 HB2 HU2 HP2 HQ2 HM2 ⊢
  clear hW hG hX
  go_loopg [26] 4 (fun q iv wr => ∃ j : Nat, j + q = 4 ∧ iv = .int .i64 j ∧ Upd W wr (fun _ => False))
  case atStart => exact ⟨0, by omega, rfl, Upd.refl _ _⟩
  case round =>
    obtain ⟨j, hj, rfl, hu⟩ := hrel
    have HUR := hide hu
    by_cases hjN : j < 4
    · have hbM := hu.get HM2.out id
      obtain ⟨m, hm⟩ : ∃ m : Int, wr.cell? ⟨G, j, none⟩ = some (.int .i64 m) := by
        obtain ⟨c0, c1, c2, c3⟩ := cells4 hbM
        have : j = 0 ∨ j = 1 ∨ j = 2 ∨ j = 3 := by omega
        rcases this with rfl | rfl | rfl | rfl
        · exact ⟨_, c0⟩
        · exact ⟨_, c1⟩
        · exact ⟨_, c2⟩
        · exact ⟨_, c3⟩
      have hgl := lt_at hbM
      have hj0 : (0 : Int) ≤ (j : Int) := by omega
      have hj1 : (j : Int) < 4 := by omega
      have hbA := hu.get HA2.out id
      have hbB := hu.get HB2.out id
      obtain ⟨x0, x1, x2, x3, x4⟩ := cells5 hbA
      have xl := lt_at hbA
      obtain ⟨y0, y1, y2, y3, y4⟩ := cells5 hbB
      have yl := lt_at hbB
      obtain ⟨N, hN⟩ : ∃ N, placeV m ⟨xk, xn, xt, xb, xf⟩ L = N := ⟨_, rfl⟩
      have P1 := fun W va vc h => HPL.out W va vc m h
      have P2 := fun W va vc h => HRP.out W va vc m h
      rw [hN] at P1 P2
      have HP1 := hide P1
      have HP3 := hide P2
      have hyl2 : X + 1 < wr.heap.size := yl
      clear hu hbM hbA hbB hN P1 P2
      go_wp2_with fail
      go_region_held3 (fun w' => w'.cell? ⟨X, 0, none⟩ = some (.int .i64 xk) ∧ w'.cell? ⟨X, 1, none⟩ = some (.int .i64 xn) ∧ w'.cell? ⟨X, 2, none⟩ = some (enS xt) ∧ w'.cell? ⟨X, 3, none⟩ = some (.bool xb) ∧ w'.cell? ⟨X, 4, none⟩ = some (.int .i64 xf) ∧ w'.cell? ⟨X + 1, 0, none⟩ = some (.int .i64 xk) ∧ w'.cell? ⟨X + 1, 1, none⟩ = some (.int .i64 xn) ∧ w'.cell? ⟨X + 1, 2, none⟩ = some (enS xt) ∧ w'.cell? ⟨X + 1, 3, none⟩ = some (.bool xb) ∧ w'.cell? ⟨X + 1, 4, none⟩ = some (.int .i64 xf))
        (first | (go_keep; done) | exact ⟨x0, x1, x2, x3, x4, y0, y1, y2, y3, y4⟩ | (have hz := u5.then u6 (fun _ _ => id); exact ⟨(hz.cell X _ xl id).trans x0, (hz.cell X _ xl id).trans x1, (hz.cell X _ xl id).trans x2, (hz.cell X _ xl id).trans x3, (hz.cell X _ xl id).trans x4, (hz.cell (X + 1) _ yl id).trans y0, (hz.cell (X + 1) _ yl id).trans y1, (hz.cell (X + 1) _ yl id).trans y2, (hz.cell (X + 1) _ yl id).trans y3, (hz.cell (X + 1) _ yl id).trans y4⟩) | (exact ⟨(u5.cell X _ xl id).trans x0, (u5.cell X _ xl id).trans x1, (u5.cell X _ xl id).trans x2, (u5.cell X _ xl id).trans x3, (u5.cell X _ xl id).trans x4, (u5.cell (X + 1) _ yl id).trans y0, (u5.cell (X + 1) _ yl id).trans y1, (u5.cell (X + 1) _ yl id).trans y2, (u5.cell (X + 1) _ yl id).trans y3, (u5.cell (X + 1) _ yl id).trans y4⟩))
        (first
          | (go_at_call 10; refine Calls.mono (HP1.out _ pa pc (rdV_drew (HP2.out.upd HUR.out))) ?_; rintro e w5 ⟨rfl, u5⟩)
          | (go_at_call 11; refine Calls.mono (HP3.out _ qa qc ((rdV_drew (HQ2.out.upd HUR.out)).upd u5)) ?_; rintro e w6 ⟨rfl, u6⟩))
      have HU6 := hide ((HUR.out.drew.then u5 (fun _ _ => id)).then u6 (fun _ _ => id))
      clear u5 u6 x0 x1 x2 x3 x4 xl y0 y1 y2 y3 y4 yl hyl2 hm
      go_wp2_with fail
      go_roundg (gk - 1)
      case measure => omega
      case rel => exact ⟨j + 1, by omega, by go_num, HU6.out⟩
    · have hj1 : ¬ (j : Int) < 4 := by omega
      clear hu
      go_wp2_with fail
      refine Calls.mono (wakes12_any _) ?_
      rintro e w9 ⟨rfl, u9⟩
      go_wp2_with fail
      go_ret
      exact ⟨rfl, (HU2.out.then HUR.out (fun _ _ => id)).then u9 (fun _ _ => id)⟩
end Go.Proofs.YtdjpkkgcoainhaaGreatDoor
/- From a law's walk to its row: the parts that are alike for every law. -/
namespace Go.Lat
open Go.ChangeShapes Go.WideShapes Go.ChangeAt Go.RowKit Go.Deep

theorem trodAll_below {H : Type} {enc : TypeId × Value → H} {P : Program} (hl : laidOutB P = true) {W W' : World} (hb : Below W.heap.size W W') :
    ∀ (ts : List TypeId) (vs : List Value) (ds : List (DataW H)) (ps : List MemPlace), (∀ t ∈ ts, P.readableRec t = true ∧ t < P.types.size) →
      DataW.TrodAll enc P W 0 (fun _ => true) true ts vs ds ps → (∀ x ∈ ps, x.block < W.heap.size) → DataW.TrodAll enc P W' 0 (fun b => decide (b < W.heap.size)) true ts vs ds ps
  | [], [], [], ps, _, h, _ => h
  | t :: ts, v :: vs, d :: ds, ps, hr, h, hlt => by
    obtain ⟨p, q, h1, h2, rfl⟩ := h
    refine ⟨p, q, Below.trod hl (hr t (by simp)).1 (hr t (by simp)).2 h1 hb (fun x hx => hlt x (by simp [hx])), ?_, rfl⟩
    exact trodAll_below hl hb ts vs ds q (fun t ht => hr t (by simp [ht])) h2 (fun x hx => hlt x (by simp [hx]))
  | [], [], _ :: _, _, _, h, _ => h.elim
  | [], _ :: _, _, _, _, h, _ => h.elim
  | _ :: _, [], _, _, _, h, _ => h.elim
  | _ :: _, _ :: _, [], _, _, h, _ => h.elim

/-- A law that leaves all that was there alone and answers true. -/
theorem law_post {H : Type} {enc : TypeId × Value → H} {P : Program} {f : Func} {s : ChangeSpec} {W W' : World} {args : Array Value} {ds gs : List (DataW H)} {before : List MemPlace} {tb : TypeId}
    (hl : laidOutB P = true) (hW : DataW.Whole enc P f.params.toList s.vars false W args.toList ds gs before) (hvars : s.vars = [])
    (hfn : s.fn H (ds ++ gs) = { results := [.lit (.bool true)], args := ds }) (hread0 : f.params.toList.all (fun t => P.readableRec t && decide (t < P.types.size)) = true)
    (hrt : f.resultTypes = #[tb]) (htb : P.underlying tb = some .bool) (hb : Upd W W' (fun _ => False)) :
    s.post enc P f false true false false W args (.bool true) W' := by
  have hread : ∀ t ∈ f.params.toList, P.readableRec t = true ∧ t < P.types.size := fun t ht => by have := List.all_eq_true.1 hread0 t ht; simpa using this
  have hlt := hW.lt
  obtain ⟨p, q, h1, h2, rfl, hz, ha⟩ := hW
  have hrt' : f.resultTypes.toList = [tb] := by rw [hrt]
  have hrs : f.resultTypes.size = 1 := by rw [hrt]; rfl
  refine ⟨ds, gs, _, [], p, [], ⟨p, q, h1, h2, rfl, hz, ha⟩, ?_, ?_, ?_, hb.below.frame _, fun h => by cases h⟩
  · rw [hfn, hrt', hrs]
    exact trodAll_mk1 (shut_bool htb true)
  · rw [hfn]
    exact trodAll_below hl hb.below _ _ _ _ hread h1 (fun x hx => hlt x (by simp [hx]))
  · rw [hfn, hvars]
    rfl

section
variable {H : Type} {enc : TypeId × Value → H} {P : Program} {w : World} {base : Nat} {spare : Nat → Bool} {held : Bool}
/-- An argument that is a slice of structs of one-cell fields: each element's cells and their readings. -/
theorem open_slice_fields {t e : TypeId} {fs : Array Field} {fuel : Nat} {cs : List Value} {x : DataW H × List MemPlace} (ht : P.underlying t = some (.slice e)) (he : P.underlying e = some (.struct fs))
    (hone : oneCellFields P fs = true) (hC : P.cellsOf e = fs.size) (h : DataW.trod enc P w base spare held fuel t cs = some x) :
    cs = [.slice none 0 0] ∨
    ∃ (a : Addr) (len cap : Nat), cs = [.slice (some a) len cap] ∧ len ≤ cap ∧ cap ≤ maxLen ∧
      ∀ i, i < len → ∃ n : Nat, ∀ (j : Nat) (f : Field), fs[j]? = some f → ∃ (v : Value) (y : DataW H × List MemPlace), w.cell? (a.add (i * fs.size + j)) = some v ∧ DataW.trod enc P w base spare held n f.type [v] = some y := by
  rcases open_slice ht h with h0 | ⟨a, len, cap, m, n, D, Pl, hcs, hb, hl, hm, hmm, hx, hi⟩
  · exact .inl h0.1
  · refine .inr ⟨a, len, cap, hcs, hl, hm, fun i him => ?_⟩
    obtain ⟨cs', hc, ht'⟩ := hi i (by rw [hmm]; split <;> omega)
    rw [hC] at hc
    obtain ⟨ys, n', hn', hy, hlen, hyl, hf⟩ := DataW.trod_struct he ht'
    obtain ⟨_, hcl, hat⟩ := World.cells?_some hc
    refine ⟨n', fun j f hj => ?_⟩
    obtain ⟨ho, hk⟩ := hone_of hone j f hj
    have hjl : j < fs.size := (Array.getElem?_eq_some_iff.1 hj).1
    have hcell := hat j hjl
    have hv : cs'[j]? = some (cs'[j]'(by omega)) := List.getElem?_eq_getElem (by omega)
    have h1 := hf j f hj
    rw [ho, hk] at h1
    have hone' : (cs'.drop j).take 1 = [cs'[j]'(by omega)] := by
      rw [List.drop_eq_getElem_cons (by omega)]
      rfl
    rw [hone'] at h1
    have hys : ys[j]? = some (ys[j]'(by omega)) := List.getElem?_eq_getElem (by omega)
    refine ⟨_, _, ?_, h1.trans hys⟩
    rw [← Go.Deep.add_add, hcell, hv]
end
/-- A cell that is there has a plain address. -/
theorem cell_spot {w : World} {a : Addr} {v : Value} (h : w.cell? a = some v) : a.spot = none := by
  unfold World.cell? at h
  split at h
  · split at h
    · cases h
    · rename_i h'; simpa using h'
  · cases h

theorem choose_fn {α : Type} (d : α) {n : Nat} {p : Nat → α → Prop} (h : ∀ i, i < n → ∃ x, p i x) : ∃ f : Nat → α, ∀ i, i < n → p i (f i) := by
  classical
  exact ⟨fun i => if hi : i < n then (h i hi).choose else d, fun i hi => by simp only [hi, dif_pos]; exact (h i hi).choose_spec⟩
theorem bounds_int {n : Int} (h : (Lit.int .i64 n).wf = true) : -9223372036854775808 ≤ n ∧ n ≤ 9223372036854775807 := by
  simp [Lit.wf, IntKind.min, IntKind.max, IntKind.signed, IntKind.bits] at h
  omega
end Go.Lat
/- The arguments of the looks' laws, opened. -/
set_option maxRecDepth 100000
namespace Go.Proofs.YtdjpkkgcoainhaaGreatDoor
open Go.ChangeShapes Go.WideShapes Go.ChangeAt Go.RowKit Go.Lat Go.Deep

theorem Tryz.own : ownKnob Tryz.prog.godebug = none := by kernel_rfl
theorem Tryz.laidOut : laidOutB Tryz.prog = true := by kernel_rfl
theorem take1c {cs : List Value} {j : Nat} (h : j < cs.length) : (cs.drop j).take 1 = [cs[j]] := by
  rw [List.drop_eq_getElem_cons h]
  rfl
theorem i64ok_of_wf {z : Int} (h : (Lit.int .i64 z).wf = true) : i64ok z := by
  simp [Lit.wf, IntKind.min, IntKind.max, IntKind.signed, IntKind.bits] at h
  exact ⟨by omega, by omega⟩
theorem value_open {H : Type} {enc : TypeId × Value → H} {W : World} {base : Nat} {sp : Nat → Bool} {held : Bool} {r : Reach} {b0 : Nat} {v : Value} {d : DataW H} {ps : List MemPlace}
    (hval : Value.okWide Tryz.prog W r b0 23 v) (hd : DataW.Trod enc Tryz.prog W base sp held 23 v d ps) : ∃ x : Vl, v = x.val ∧ x.ok := by
  obtain ⟨cs, rfl, -⟩ := okWide_struct Tryz.underlying23 hval
  obtain ⟨fuel, h0⟩ := hd
  have h : DataW.trod enc Tryz.prog W base sp held fuel 23 cs.toList = some (d, ps) := h0
  obtain ⟨ys, m, -, -, hl, hyl, hf⟩ := DataW.trod_struct Tryz.underlying23 h
  have h5 : Tryz.prog.cellsOf 23 = 5 := by kernel_rfl
  have hs : Tryz.prog.cellsOf 9 = 1 := by kernel_rfl
  have hi : Tryz.prog.cellsOf 3 = 1 := by kernel_rfl
  have hn : Tryz.prog.cellsOf 2 = 1 := by kernel_rfl
  have hb : Tryz.prog.cellsOf 4 = 1 := by kernel_rfl
  rw [h5] at hl
  have f0 := hf 0 _ rfl
  have f1 := hf 1 _ rfl
  have f2 := hf 2 _ rfl
  have f3 := hf 3 _ rfl
  have f4 := hf 4 _ rfl
  change DataW.trod enc Tryz.prog W base sp held _ 3 ((cs.toList.drop 0).take (Tryz.prog.cellsOf 3)) = _ at f0
  change DataW.trod enc Tryz.prog W base sp held _ 2 ((cs.toList.drop 1).take (Tryz.prog.cellsOf 2)) = _ at f1
  change DataW.trod enc Tryz.prog W base sp held _ 9 ((cs.toList.drop 2).take (Tryz.prog.cellsOf 9)) = _ at f2
  change DataW.trod enc Tryz.prog W base sp held _ 4 ((cs.toList.drop 3).take (Tryz.prog.cellsOf 4)) = _ at f3
  change DataW.trod enc Tryz.prog W base sp held _ 3 ((cs.toList.drop 4).take (Tryz.prog.cellsOf 3)) = _ at f4
  rw [hi] at f0 f4
  rw [hn] at f1
  rw [hs] at f2
  rw [hb] at f3
  have hyl5 : ys.length = 5 := hyl
  rw [take1c (by omega), List.getElem?_eq_getElem (by omega)] at f0 f1 f2 f3 f4
  obtain ⟨k, e0, _, wk⟩ := DataW.trod_int Tryz.underlying3 f0
  obtain ⟨n, e1, _, wn⟩ := DataW.trod_int Tryz.underlying2 f1
  obtain ⟨s, e2, _, ws⟩ := DataW.trod_string Tryz.underlying9 f2
  obtain ⟨b, e3, _⟩ := DataW.trod_bool Tryz.underlying4 f3
  obtain ⟨f, e4, _, wf⟩ := DataW.trod_int Tryz.underlying3 f4
  simp only [List.cons.injEq, and_true] at e0 e1 e2 e3 e4
  have es : enS s.data.toList = .string s := by
    show Value.string ⟨s.data.toList.toArray⟩ = .string s
    simp
  refine ⟨⟨k, n, s.data.toList, b, f⟩, ?_, ⟨i64ok_of_wf wk, i64ok_of_wf wn, ws, i64ok_of_wf wf⟩⟩
  unfold Vl.val
  simp only [es]
  congr 1
  apply Array.ext'
  apply List.ext_getElem?
  intro j
  match j with
  | 0 => rw [List.getElem?_eq_getElem (by omega), e0]; rfl
  | 1 => rw [List.getElem?_eq_getElem (by omega), e1]; rfl
  | 2 => rw [List.getElem?_eq_getElem (by omega), e2]; rfl
  | 3 => rw [List.getElem?_eq_getElem (by omega), e3]; rfl
  | 4 => rw [List.getElem?_eq_getElem (by omega), e4]; rfl
  | j + 5 => rw [List.getElem?_eq_none (by omega), List.getElem?_eq_none (by simp)]
/-- A value's cells, read. -/
theorem valcells_open {H : Type} {enc : TypeId × Value → H} {W : World} {base : Nat} {sp : Nat → Bool} {held : Bool} {fuel : Nat} {cs : List Value} {y : DataW H × List MemPlace} (h : DataW.trod enc Tryz.prog W base sp held fuel 23 cs = some y) : ∃ x : Vl, cs = x.cells ∧ x.ok := by
  obtain ⟨ys, m, -, -, hl, hyl, hf⟩ := DataW.trod_struct Tryz.underlying23 h
  have h5 : Tryz.prog.cellsOf 23 = 5 := by kernel_rfl
  have hs : Tryz.prog.cellsOf 9 = 1 := by kernel_rfl
  have hi : Tryz.prog.cellsOf 3 = 1 := by kernel_rfl
  have hn : Tryz.prog.cellsOf 2 = 1 := by kernel_rfl
  have hb : Tryz.prog.cellsOf 4 = 1 := by kernel_rfl
  rw [h5] at hl
  have f0 := hf 0 _ rfl
  have f1 := hf 1 _ rfl
  have f2 := hf 2 _ rfl
  have f3 := hf 3 _ rfl
  have f4 := hf 4 _ rfl
  change DataW.trod enc Tryz.prog W base sp held _ 3 ((cs.drop 0).take (Tryz.prog.cellsOf 3)) = _ at f0
  change DataW.trod enc Tryz.prog W base sp held _ 2 ((cs.drop 1).take (Tryz.prog.cellsOf 2)) = _ at f1
  change DataW.trod enc Tryz.prog W base sp held _ 9 ((cs.drop 2).take (Tryz.prog.cellsOf 9)) = _ at f2
  change DataW.trod enc Tryz.prog W base sp held _ 4 ((cs.drop 3).take (Tryz.prog.cellsOf 4)) = _ at f3
  change DataW.trod enc Tryz.prog W base sp held _ 3 ((cs.drop 4).take (Tryz.prog.cellsOf 3)) = _ at f4
  rw [hi] at f0 f4
  rw [hn] at f1
  rw [hs] at f2
  rw [hb] at f3
  have hyl5 : ys.length = 5 := hyl
  rw [take1c (by omega), List.getElem?_eq_getElem (by omega)] at f0 f1 f2 f3 f4
  obtain ⟨k, e0, _, wk⟩ := DataW.trod_int Tryz.underlying3 f0
  obtain ⟨n, e1, _, wn⟩ := DataW.trod_int Tryz.underlying2 f1
  obtain ⟨s, e2, _, ws⟩ := DataW.trod_string Tryz.underlying9 f2
  obtain ⟨b, e3, _⟩ := DataW.trod_bool Tryz.underlying4 f3
  obtain ⟨f, e4, _, wf⟩ := DataW.trod_int Tryz.underlying3 f4
  simp only [List.cons.injEq, and_true] at e0 e1 e2 e3 e4
  have es : enS s.data.toList = .string s := by
    show Value.string ⟨s.data.toList.toArray⟩ = .string s
    simp
  refine ⟨⟨k, n, s.data.toList, b, f⟩, ?_, ⟨i64ok_of_wf wk, i64ok_of_wf wn, ws, i64ok_of_wf wf⟩⟩
  unfold Vl.cells
  simp only [es]
  apply List.ext_getElem?
  intro j
  match j with
  | 0 => rw [List.getElem?_eq_getElem (by omega), e0]; rfl
  | 1 => rw [List.getElem?_eq_getElem (by omega), e1]; rfl
  | 2 => rw [List.getElem?_eq_getElem (by omega), e2]; rfl
  | 3 => rw [List.getElem?_eq_getElem (by omega), e3]; rfl
  | 4 => rw [List.getElem?_eq_getElem (by omega), e4]; rfl
  | j + 5 => rw [List.getElem?_eq_none (by omega), List.getElem?_eq_none (by simp)]
theorem vals_open {H : Type} {enc : TypeId × Value → H} {W : World} {base : Nat} {sp : Nat → Bool} {held : Bool} {n : Nat} {v : Value} {y : DataW H × List MemPlace} (h : DataW.trod enc Tryz.prog W base sp held n 24 [v] = some y) :
    ∃ (a : Option Addr) (cap : Nat) (l : List Vl), v = .slice a l.length cap ∧ l.length ≤ cap ∧ RdV W a l ∧ (∀ x ∈ l, okK x) ∧ (a = none → cap = 0) := by
  rcases open_slice Tryz.underlying24 h with ⟨h0, _⟩ | ⟨a, len, cap, m, n', D, Pl, hcs, hb, hl, hm, hmm, hx, hi⟩
  · simp at h0
    subst h0
    exact ⟨none, 0, [], rfl, by simp, RdV.nil _ _, fun x hx => by simp at hx, fun _ => rfl⟩
  · simp at hcs
    subst hcs
    have h5 : Tryz.prog.cellsOf 23 = 5 := by kernel_rfl
    have hall : ∀ i, i < len → ∃ x : Vl, x.ok ∧ W.cell? (a.add (i * 5)) = some (.int .i64 x.k) ∧ W.cell? (a.add (i * 5 + 1)) = some (.int .i64 x.n) ∧ W.cell? (a.add (i * 5 + 2)) = some (enS x.t) ∧ W.cell? (a.add (i * 5 + 3)) = some (.bool x.b) ∧ W.cell? (a.add (i * 5 + 4)) = some (.int .i64 x.f) := by
      intro i hil
      obtain ⟨cs', hc, ht⟩ := hi i (by rw [hmm]; split <;> omega)
      rw [h5] at hc
      obtain ⟨_, hcl, hat⟩ := World.cells?_some hc
      obtain ⟨x, rfl, ho⟩ := valcells_open ht
      refine ⟨x, ho, ?_, ?_, ?_, ?_, ?_⟩
      · have := hat 0 (by omega); rw [Go.Deep.add_add] at this; simpa [Vl.cells] using this
      · have := hat 1 (by omega); rw [Go.Deep.add_add] at this; simpa [Vl.cells] using this
      · have := hat 2 (by omega); rw [Go.Deep.add_add] at this; simpa [Vl.cells] using this
      · have := hat 3 (by omega); rw [Go.Deep.add_add] at this; simpa [Vl.cells] using this
      · have := hat 4 (by omega); rw [Go.Deep.add_add] at this; simpa [Vl.cells] using this
    obtain ⟨A, hA⟩ := choose_fn vZero hall
    refine ⟨some a, cap, (List.range len).map A, by simp, by simpa using hl, fun i x hx => ?_, fun x hx => ?_, by simp⟩
    · have hil : i < len := by have := (List.getElem?_eq_some_iff.1 hx).1; simpa using this
      have hxA : A i = x := by simpa [hil] using hx
      subst hxA
      obtain ⟨-, z0, -⟩ := hA 0 (by omega)
      have hs := cell_spot z0
      obtain ⟨-, k0, k1, k2, k3, k4⟩ := hA i hil
      obtain ⟨ab, ao, asp⟩ := a
      have hsp : asp = none := by
        cases asp with
        | none => rfl
        | some q => simp [Addr.add] at hs
      subst hsp
      rw [add_off] at k0 k1 k2 k3 k4
      exact ⟨ab, ao, rfl, World.block_lt_of_cell? _ _ k0, k0, by rw [Nat.add_assoc]; exact k1, by rw [Nat.add_assoc]; exact k2, by rw [Nat.add_assoc]; exact k3, by rw [Nat.add_assoc]; exact k4⟩
    · rw [List.mem_map] at hx
      obtain ⟨i, hi', rfl⟩ := hx
      have ho := (hA i (by simpa using hi')).1
      exact ⟨ho.k, ho.n, ho.f⟩
theorem okK_of {x : Vl} (h : x.ok) : okK x := ⟨h.k, h.n, h.f⟩
end Go.Proofs.YtdjpkkgcoainhaaGreatDoor
