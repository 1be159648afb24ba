/- The eleven cases of LooksTables, made in whatever order. -/
import Derived.Test.YtdjpkkgcoainhaaGreatDoorJ29
import Derived.Test.YtdjpkkgcoainhaaGreatDoorJ33
set_option maxRecDepth 100000
namespace Go.Proofs.YtdjpkkgcoainhaaGreatDoor
open Go.RowKit Go.Lat Go.Lib

/-- The operations of a region of some code. -/
def regOf (n : Nat) : Code → Option (Array Oper)
  | .region id ops _ => if id = n then some ops else none
  | .seq a b => match regOf n a with | some x => some x | none => regOf n b
  | .cond _ a b => match regOf n a with | some x => some x | none => regOf n b
  | .block _ b => regOf n b
  | .loop b => regOf n b
  | .scope b => regOf n b
  | _ => none
noncomputable def tbOps : Array Oper := match Tryz.f5.body with | some c => (regOf 13 c).getD #[] | none => #[]
theorem tb_size : tbOps.size = 77 := by kernel_rfl
theorem tb_all : (List.range 77).all (fun i => match tbOps[i]? with | none => false | some o => (o.dst == some (67 + i)) && o.guard.isNone && o.after.toList.all fun e => !Region.binds .any e || decide (e.on < i)) = true := by kernel_rfl
/-- What the cases are made of. -/
structure TbD where
  th : ArP
  t : ArP
  c0 : ArP
  c1 : ArP
  c2 : ArP
def TbD.ps (E : TbD) : List (List UInt8 × List ArP) := [([77, 65, 84, 67, 72], [E.th, E.t]), ([77, 65, 84, 67, 72], [E.th, E.t, E.c0]), ([73, 78, 68, 69, 88], [E.t, E.c0]), ([73, 78, 68, 69, 88], [E.t, E.c0, E.c1]), ([86, 76, 79, 79, 75, 85, 80], [E.th, E.t, E.c0]), ([86, 76, 79, 79, 75, 85, 80], [E.th, E.t, E.c0, E.c1]), ([72, 76, 79, 79, 75, 85, 80], [E.th, E.t, E.c0, E.c2]), ([76, 79, 79, 75, 85, 80], [E.th, E.t, E.t]), ([67, 72, 79, 79, 83, 69], [E.c0, E.th, E.c1, E.t]), ([82, 79, 87, 83], [E.t]), ([67, 79, 76, 85, 77, 78, 83], [E.t])]
inductive Kd where
  | val (v : Value)
  | bs (L : List ArP)
  | nm (s : Value) (L : List ArP)
  | fin (l : List (List UInt8 × List ArP))
def finC (l : List (List UInt8 × List ArP)) (gs : Nat → Nat) : List Value := (List.range l.length).flatMap fun i => [enS (l.getD i ([], [])).1, .slice (some ⟨gs i, 0, none⟩) (l.getD i ([], [])).2.length (l.getD i ([], [])).2.length]
def GoodK (k : Kd) (v : Value) (w : World) : Prop := match k with
  | .val x => v = x
  | .bs L => ∃ g, v = .slice (some ⟨g, 0, none⟩) L.length L.length ∧ w.heap[g]? = some (.cells (arC L).toArray 58 (0, 0))
  | .nm s L => ∃ g, v = .agg #[s, .slice (some ⟨g, 0, none⟩) L.length L.length] ∧ w.heap[g]? = some (.cells (arC L).toArray 58 (0, 0))
  | .fin l => ∃ (g : Nat) (gs : Nat → Nat), v = .slice (some ⟨g, 0, none⟩) l.length l.length ∧ w.heap[g]? = some (.cells (finC l gs).toArray 60 (0, 0)) ∧ ∀ i, i < l.length → w.heap[gs i]? = some (.cells (arC (l.getD i ([], [])).2).toArray 58 (0, 0))
theorem GoodK.upd {k : Kd} {v : Value} {w w' : World} (h : GoodK k v w) (u : Upd w w' (fun _ => False)) : GoodK k v w' := by
  cases k with
  | val x => exact h
  | bs L => obtain ⟨g, e, hg⟩ := h; exact ⟨g, e, u.get hg id⟩
  | nm s L => obtain ⟨g, e, hg⟩ := h; exact ⟨g, e, u.get hg id⟩
  | fin l => obtain ⟨g, gs, e, hg, hs⟩ := h; exact ⟨g, gs, e, u.get hg id, fun i hi => u.get (hs i hi) id⟩
def ArP.cs (x : ArP) : List Value := [.slice x.2.1 x.1.v.length x.2.2, .int .i64 x.1.c, .bool x.1.w]
/-- Where the law's variables lie. -/
structure TbE (E : TbD) (W : World) (arr : Array Value) (TH TB CG CO cc : Nat) : Prop where
  h7 : arr.getD 7 undef = .pointer (some ⟨TH, 0, none⟩)
  h4 : arr.getD 4 undef = .pointer (some ⟨TB, 0, none⟩)
  h8 : arr.getD 8 undef = .slice (some ⟨CG, CO, none⟩) 3 cc
  lh : TH < W.heap.size
  lt : TB < W.heap.size
  lc : CG < W.heap.size
  rh : W.rangeAt TH 0 E.th.cs
  rt : W.rangeAt TB 0 E.t.cs
  r0 : W.rangeAt CG CO E.c0.cs
  r1 : W.rangeAt CG (CO + 3) E.c1.cs
  r2 : W.rangeAt CG (CO + 6) E.c2.cs
theorem range_upd {w w' : World} {b o : Nat} {cs : List Value} (h : w.rangeAt b o cs) (u : Upd w w' (fun _ => False)) (hb : b < w.heap.size) : w'.rangeAt b o cs := fun j v hv => (u.cell b (o + j) hb id).trans (h j v hv)
theorem dep_of {ops : Array Oper} {i j p : Nat} {o : Oper} {ρ : Operand → Value} {w : World} {Good : Nat → Value → World → Prop} (ho : ops[i]? = some o) (h : (ops[i]?).map (fun o => o.after.toList.any fun e => Region.binds .any e && e.on == j) = some true)
    (H : ∀ e ∈ o.after, Region.binds .any e = true → Good e.on (ρ (.tmp (p + e.on))) w) : Good j (ρ (.tmp (p + j))) w := by
  rw [ho] at h
  simp only [Option.map_some, Option.some.injEq] at h
  rw [List.any_eq_true] at h
  obtain ⟨e, he, h2⟩ := h
  rw [Bool.and_eq_true] at h2
  have e1 : e.on = j := by simpa using h2.2
  subst e1
  exact H e (by simpa using he) h2.1
theorem op_of {ops : Array Oper} {i : Nat} {o : Oper} {x : Op} (ho : ops[i]? = some o) (h : (ops[i]?).map (·.op) = some x) : o.op = x := by
  rw [ho] at h
  exact Option.some.inj h
def tbK (E : TbD) (CG CO cc : Nat) : Nat → Kd
  | 0 => .val (.agg E.th.cs.toArray)
  | 1 => .val (.agg E.t.cs.toArray)
  | 2 => .bs [E.th, E.t]
  | 3 => .nm (.string ⟨#[77, 65, 84, 67, 72]⟩) [E.th, E.t]
  | 4 => .val (.agg E.th.cs.toArray)
  | 5 => .val (.agg E.t.cs.toArray)
  | 6 => .val (.slice (some ⟨CG, CO, none⟩) 3 cc)
  | 7 => .val (.pointer (some ⟨CG, CO + 0, none⟩))
  | 8 => .val (.agg E.c0.cs.toArray)
  | 9 => .bs [E.th, E.t, E.c0]
  | 10 => .nm (.string ⟨#[77, 65, 84, 67, 72]⟩) [E.th, E.t, E.c0]
  | 11 => .val (.agg E.t.cs.toArray)
  | 12 => .val (.slice (some ⟨CG, CO, none⟩) 3 cc)
  | 13 => .val (.pointer (some ⟨CG, CO + 0, none⟩))
  | 14 => .val (.agg E.c0.cs.toArray)
  | 15 => .bs [E.t, E.c0]
  | 16 => .nm (.string ⟨#[73, 78, 68, 69, 88]⟩) [E.t, E.c0]
  | 17 => .val (.agg E.t.cs.toArray)
  | 18 => .val (.slice (some ⟨CG, CO, none⟩) 3 cc)
  | 19 => .val (.pointer (some ⟨CG, CO + 0, none⟩))
  | 20 => .val (.agg E.c0.cs.toArray)
  | 21 => .val (.slice (some ⟨CG, CO, none⟩) 3 cc)
  | 22 => .val (.pointer (some ⟨CG, CO + 3, none⟩))
  | 23 => .val (.agg E.c1.cs.toArray)
  | 24 => .bs [E.t, E.c0, E.c1]
  | 25 => .nm (.string ⟨#[73, 78, 68, 69, 88]⟩) [E.t, E.c0, E.c1]
  | 26 => .val (.agg E.th.cs.toArray)
  | 27 => .val (.agg E.t.cs.toArray)
  | 28 => .val (.slice (some ⟨CG, CO, none⟩) 3 cc)
  | 29 => .val (.pointer (some ⟨CG, CO + 0, none⟩))
  | 30 => .val (.agg E.c0.cs.toArray)
  | 31 => .bs [E.th, E.t, E.c0]
  | 32 => .nm (.string ⟨#[86, 76, 79, 79, 75, 85, 80]⟩) [E.th, E.t, E.c0]
  | 33 => .val (.agg E.th.cs.toArray)
  | 34 => .val (.agg E.t.cs.toArray)
  | 35 => .val (.slice (some ⟨CG, CO, none⟩) 3 cc)
  | 36 => .val (.pointer (some ⟨CG, CO + 0, none⟩))
  | 37 => .val (.agg E.c0.cs.toArray)
  | 38 => .val (.slice (some ⟨CG, CO, none⟩) 3 cc)
  | 39 => .val (.pointer (some ⟨CG, CO + 3, none⟩))
  | 40 => .val (.agg E.c1.cs.toArray)
  | 41 => .bs [E.th, E.t, E.c0, E.c1]
  | 42 => .nm (.string ⟨#[86, 76, 79, 79, 75, 85, 80]⟩) [E.th, E.t, E.c0, E.c1]
  | 43 => .val (.agg E.th.cs.toArray)
  | 44 => .val (.agg E.t.cs.toArray)
  | 45 => .val (.slice (some ⟨CG, CO, none⟩) 3 cc)
  | 46 => .val (.pointer (some ⟨CG, CO + 0, none⟩))
  | 47 => .val (.agg E.c0.cs.toArray)
  | 48 => .val (.slice (some ⟨CG, CO, none⟩) 3 cc)
  | 49 => .val (.pointer (some ⟨CG, CO + 6, none⟩))
  | 50 => .val (.agg E.c2.cs.toArray)
  | 51 => .bs [E.th, E.t, E.c0, E.c2]
  | 52 => .nm (.string ⟨#[72, 76, 79, 79, 75, 85, 80]⟩) [E.th, E.t, E.c0, E.c2]
  | 53 => .val (.agg E.th.cs.toArray)
  | 54 => .val (.agg E.t.cs.toArray)
  | 55 => .val (.agg E.t.cs.toArray)
  | 56 => .bs [E.th, E.t, E.t]
  | 57 => .nm (.string ⟨#[76, 79, 79, 75, 85, 80]⟩) [E.th, E.t, E.t]
  | 58 => .val (.slice (some ⟨CG, CO, none⟩) 3 cc)
  | 59 => .val (.pointer (some ⟨CG, CO + 0, none⟩))
  | 60 => .val (.agg E.c0.cs.toArray)
  | 61 => .val (.agg E.th.cs.toArray)
  | 62 => .val (.slice (some ⟨CG, CO, none⟩) 3 cc)
  | 63 => .val (.pointer (some ⟨CG, CO + 3, none⟩))
  | 64 => .val (.agg E.c1.cs.toArray)
  | 65 => .val (.agg E.t.cs.toArray)
  | 66 => .bs [E.c0, E.th, E.c1, E.t]
  | 67 => .nm (.string ⟨#[67, 72, 79, 79, 83, 69]⟩) [E.c0, E.th, E.c1, E.t]
  | 68 => .val (.agg E.t.cs.toArray)
  | 69 => .bs [E.t]
  | 70 => .nm (.string ⟨#[82, 79, 87, 83]⟩) [E.t]
  | 71 => .val (.agg E.t.cs.toArray)
  | 72 => .bs [E.t]
  | 73 => .nm (.string ⟨#[67, 79, 76, 85, 77, 78, 83]⟩) [E.t]
  | 74 => .fin E.ps
  | 75 => .val (.int .i64 11)
  | 76 => .val (.int .i64 0)
  | _ => .val undef
theorem Tryz.infoLA : (Tryz.prog.info? 58).map (fun i => (i.zero, i.size, i.bytes)) = some (some (.agg #[.slice none 0 0, .int .i64 0, .bool false]), 3, 40) := by kernel_rfl
theorem Tryz.infoTC : (Tryz.prog.info? 60).map (fun i => (i.zero, i.size, i.bytes)) = some (some (.agg #[.string ⟨#[]⟩, .slice none 0 0]), 2, 40) := by kernel_rfl
theorem tb_0 {E : TbD} {W : World} {arr : Array Value} {TH TB : Nat} {CG CO cc : Nat} (T : TbE E W arr TH TB CG CO cc) {o : Oper} {ρ : Operand → Value} {w : World} (h1 : ∀ s, s < 67 → ρ (.tmp s) = arr.getD s undef) (hu : Upd W w (fun _ => False)) (ho : tbOps[0]? = some o) : ∃ v w', (execOp ρ o).run Tryz.prog w = .ok (.value v) w' ∧ Upd w w' (fun _ => False) ∧ GoodK (tbK E CG CO cc 0) v w' := by
  exact ⟨_, _, fl_load w (op_of ho (x := .load 58 (.tmp 7)) (by kernel_rfl)) ((h1 7 (by decide)).trans T.h7) (range_upd T.rh hu T.lh) Tryz.underlying58 rfl (by kernel_rfl), Upd.refl w _, rfl⟩
theorem tb_1 {E : TbD} {W : World} {arr : Array Value} {TH TB : Nat} {CG CO cc : Nat} (T : TbE E W arr TH TB CG CO cc) {o : Oper} {ρ : Operand → Value} {w : World} (h1 : ∀ s, s < 67 → ρ (.tmp s) = arr.getD s undef) (hu : Upd W w (fun _ => False)) (ho : tbOps[1]? = some o) : ∃ v w', (execOp ρ o).run Tryz.prog w = .ok (.value v) w' ∧ Upd w w' (fun _ => False) ∧ GoodK (tbK E CG CO cc 1) v w' := by
  exact ⟨_, _, fl_load w (op_of ho (x := .load 58 (.tmp 4)) (by kernel_rfl)) ((h1 4 (by decide)).trans T.h4) (range_upd T.rt hu T.lt) Tryz.underlying58 rfl (by kernel_rfl), Upd.refl w _, rfl⟩
theorem tb_2 {E : TbD} {CG CO cc : Nat} {o : Oper} {ρ : Operand → Value} {w : World} (ho : tbOps[2]? = some o) (hd : ∀ e ∈ o.after, Region.binds .any e = true → GoodK (tbK E CG CO cc e.on) (ρ (.tmp (67 + e.on))) w) : ∃ v w', (execOp ρ o).run Tryz.prog w = .ok (.value v) w' ∧ Upd w w' (fun _ => False) ∧ GoodK (tbK E CG CO cc 2) v w' := by
  have e0 : ρ (.tmp 67) = .agg E.th.cs.toArray := (dep_of (j := 0) (p := 67) (Good := fun i => GoodK (tbK E CG CO cc i)) ho (by kernel_rfl) hd)
  have e1 : ρ (.tmp 68) = .agg E.t.cs.toArray := (dep_of (j := 1) (p := 67) (Good := fun i => GoodK (tbK E CG CO cc i)) ho (by kernel_rfl) hd)
  obtain ⟨ie, hie, hz, hs, -⟩ := info_p Tryz.infoLA
  have k := fl_buildSlice (P := Tryz.prog) (ρ := ρ) (cells := (arC [E.th, E.t]).toArray) w (op_of ho (x := .buildSlice 42 2 #[(0, Operand.tmp 67), (1, Operand.tmp 68)]) (by kernel_rfl)) Tryz.underlying42 hie hz (by rw [hs]; decide) (by rw [hs]; decide) (by
    rw [hs]
    simp only [List.map_toArray, List.map_cons, List.map_nil, e0, e1]
    kernel_rfl)
  exact ⟨_, _, k, (Upd.refl w _).alloc _, _, rfl, Vnew1 w _⟩
theorem tb_3 {E : TbD} {CG CO cc : Nat} {o : Oper} {ρ : Operand → Value} {w : World} (h2 : ∀ c, ρ (.const c) = c) (ho : tbOps[3]? = some o) (hd : ∀ e ∈ o.after, Region.binds .any e = true → GoodK (tbK E CG CO cc e.on) (ρ (.tmp (67 + e.on))) w) : ∃ v w', (execOp ρ o).run Tryz.prog w = .ok (.value v) w' ∧ Upd w w' (fun _ => False) ∧ GoodK (tbK E CG CO cc 3) v w' := by
  obtain ⟨g, hv, hg⟩ : GoodK (.bs [E.th, E.t]) (ρ (.tmp 69)) w := (dep_of (j := 2) (p := 67) (Good := fun i => GoodK (tbK E CG CO cc i)) ho (by kernel_rfl) hd)
  have hs := h2 (.string ⟨#[77, 65, 84, 67, 72]⟩)
  have k := fl_build (P := Tryz.prog) (ρ := ρ) (cells := #[.string ⟨#[77, 65, 84, 67, 72]⟩, .slice (some ⟨g, 0, none⟩) 2 2]) w (op_of ho (x := .build 60 #[(0, .const (.string ⟨#[77, 65, 84, 67, 72]⟩)), (1, .tmp 69)]) (by kernel_rfl)) (by
    simp only [List.map_toArray, List.map_cons, List.map_nil, hs, hv]
    kernel_rfl)
  exact ⟨_, _, k, Upd.refl w _, g, rfl, hg⟩
theorem tb_4 {E : TbD} {W : World} {arr : Array Value} {TH TB : Nat} {CG CO cc : Nat} (T : TbE E W arr TH TB CG CO cc) {o : Oper} {ρ : Operand → Value} {w : World} (h1 : ∀ s, s < 67 → ρ (.tmp s) = arr.getD s undef) (hu : Upd W w (fun _ => False)) (ho : tbOps[4]? = some o) : ∃ v w', (execOp ρ o).run Tryz.prog w = .ok (.value v) w' ∧ Upd w w' (fun _ => False) ∧ GoodK (tbK E CG CO cc 4) v w' := by
  exact ⟨_, _, fl_load w (op_of ho (x := .load 58 (.tmp 7)) (by kernel_rfl)) ((h1 7 (by decide)).trans T.h7) (range_upd T.rh hu T.lh) Tryz.underlying58 rfl (by kernel_rfl), Upd.refl w _, rfl⟩
theorem tb_5 {E : TbD} {W : World} {arr : Array Value} {TH TB : Nat} {CG CO cc : Nat} (T : TbE E W arr TH TB CG CO cc) {o : Oper} {ρ : Operand → Value} {w : World} (h1 : ∀ s, s < 67 → ρ (.tmp s) = arr.getD s undef) (hu : Upd W w (fun _ => False)) (ho : tbOps[5]? = some o) : ∃ v w', (execOp ρ o).run Tryz.prog w = .ok (.value v) w' ∧ Upd w w' (fun _ => False) ∧ GoodK (tbK E CG CO cc 5) v w' := by
  exact ⟨_, _, fl_load w (op_of ho (x := .load 58 (.tmp 4)) (by kernel_rfl)) ((h1 4 (by decide)).trans T.h4) (range_upd T.rt hu T.lt) Tryz.underlying58 rfl (by kernel_rfl), Upd.refl w _, rfl⟩
theorem tb_6 {E : TbD} {W : World} {arr : Array Value} {TH TB : Nat} {CG CO cc : Nat} (T : TbE E W arr TH TB CG CO cc) {o : Oper} {ρ : Operand → Value} {w : World} (h1 : ∀ s, s < 67 → ρ (.tmp s) = arr.getD s undef) (ho : tbOps[6]? = some o) : ∃ v w', (execOp ρ o).run Tryz.prog w = .ok (.value v) w' ∧ Upd w w' (fun _ => False) ∧ GoodK (tbK E CG CO cc 6) v w' := by
  exact ⟨_, _, fl_move w (op_of ho (x := .move (.tmp 8)) (by kernel_rfl)) ((h1 8 (by decide)).trans T.h8), Upd.refl w _, rfl⟩
theorem tb_7 {E : TbD} {CG CO cc : Nat} {o : Oper} {ρ : Operand → Value} {w : World} (h2 : ∀ c, ρ (.const c) = c) (ho : tbOps[7]? = some o) (hd : ∀ e ∈ o.after, Region.binds .any e = true → GoodK (tbK E CG CO cc e.on) (ρ (.tmp (67 + e.on))) w) : ∃ v w', (execOp ρ o).run Tryz.prog w = .ok (.value v) w' ∧ Upd w w' (fun _ => False) ∧ GoodK (tbK E CG CO cc 7) v w' := by
  have hx : ρ (.tmp 73) = .slice (some ⟨CG, CO, none⟩) 3 cc := (dep_of (j := 6) (p := 67) (Good := fun i => GoodK (tbK E CG CO cc i)) ho (by kernel_rfl) hd)
  have k := fl_index (P := Tryz.prog) w (op_of ho (x := .indexAddr 42 (.tmp 73) (.const (.int .i64 0))) (by kernel_rfl)) hx (j := 0) (h2 _) (by omega) Tryz.underlying42 (sz := 3) (by kernel_rfl)
  exact ⟨_, _, k, Upd.refl w _, by simp [GoodK, tbK, Addr.add]⟩
theorem tb_8 {E : TbD} {W : World} {arr : Array Value} {TH TB : Nat} {CG CO cc : Nat} (T : TbE E W arr TH TB CG CO cc) {o : Oper} {ρ : Operand → Value} {w : World} (hu : Upd W w (fun _ => False)) (ho : tbOps[8]? = some o) (hd : ∀ e ∈ o.after, Region.binds .any e = true → GoodK (tbK E CG CO cc e.on) (ρ (.tmp (67 + e.on))) w) : ∃ v w', (execOp ρ o).run Tryz.prog w = .ok (.value v) w' ∧ Upd w w' (fun _ => False) ∧ GoodK (tbK E CG CO cc 8) v w' := by
  have hx : ρ (.tmp 74) = .pointer (some ⟨CG, CO + 0, none⟩) := (dep_of (j := 7) (p := 67) (Good := fun i => GoodK (tbK E CG CO cc i)) ho (by kernel_rfl) hd)
  exact ⟨_, _, fl_load w (op_of ho (x := .load 58 (.tmp 74)) (by kernel_rfl)) hx (range_upd T.r0 hu T.lc) Tryz.underlying58 rfl (by kernel_rfl), Upd.refl w _, rfl⟩
theorem tb_9 {E : TbD} {CG CO cc : Nat} {o : Oper} {ρ : Operand → Value} {w : World} (ho : tbOps[9]? = some o) (hd : ∀ e ∈ o.after, Region.binds .any e = true → GoodK (tbK E CG CO cc e.on) (ρ (.tmp (67 + e.on))) w) : ∃ v w', (execOp ρ o).run Tryz.prog w = .ok (.value v) w' ∧ Upd w w' (fun _ => False) ∧ GoodK (tbK E CG CO cc 9) v w' := by
  have e0 : ρ (.tmp 71) = .agg E.th.cs.toArray := (dep_of (j := 4) (p := 67) (Good := fun i => GoodK (tbK E CG CO cc i)) ho (by kernel_rfl) hd)
  have e1 : ρ (.tmp 72) = .agg E.t.cs.toArray := (dep_of (j := 5) (p := 67) (Good := fun i => GoodK (tbK E CG CO cc i)) ho (by kernel_rfl) hd)
  have e2 : ρ (.tmp 75) = .agg E.c0.cs.toArray := (dep_of (j := 8) (p := 67) (Good := fun i => GoodK (tbK E CG CO cc i)) ho (by kernel_rfl) hd)
  obtain ⟨ie, hie, hz, hs, -⟩ := info_p Tryz.infoLA
  have k := fl_buildSlice (P := Tryz.prog) (ρ := ρ) (cells := (arC [E.th, E.t, E.c0]).toArray) w (op_of ho (x := .buildSlice 42 3 #[(0, Operand.tmp 71), (1, Operand.tmp 72), (2, Operand.tmp 75)]) (by kernel_rfl)) Tryz.underlying42 hie hz (by rw [hs]; decide) (by rw [hs]; decide) (by
    rw [hs]
    simp only [List.map_toArray, List.map_cons, List.map_nil, e0, e1, e2]
    kernel_rfl)
  exact ⟨_, _, k, (Upd.refl w _).alloc _, _, rfl, Vnew1 w _⟩
theorem tb_10 {E : TbD} {CG CO cc : Nat} {o : Oper} {ρ : Operand → Value} {w : World} (h2 : ∀ c, ρ (.const c) = c) (ho : tbOps[10]? = some o) (hd : ∀ e ∈ o.after, Region.binds .any e = true → GoodK (tbK E CG CO cc e.on) (ρ (.tmp (67 + e.on))) w) : ∃ v w', (execOp ρ o).run Tryz.prog w = .ok (.value v) w' ∧ Upd w w' (fun _ => False) ∧ GoodK (tbK E CG CO cc 10) v w' := by
  obtain ⟨g, hv, hg⟩ : GoodK (.bs [E.th, E.t, E.c0]) (ρ (.tmp 76)) w := (dep_of (j := 9) (p := 67) (Good := fun i => GoodK (tbK E CG CO cc i)) ho (by kernel_rfl) hd)
  have hs := h2 (.string ⟨#[77, 65, 84, 67, 72]⟩)
  have k := fl_build (P := Tryz.prog) (ρ := ρ) (cells := #[.string ⟨#[77, 65, 84, 67, 72]⟩, .slice (some ⟨g, 0, none⟩) 3 3]) w (op_of ho (x := .build 60 #[(0, .const (.string ⟨#[77, 65, 84, 67, 72]⟩)), (1, .tmp 76)]) (by kernel_rfl)) (by
    simp only [List.map_toArray, List.map_cons, List.map_nil, hs, hv]
    kernel_rfl)
  exact ⟨_, _, k, Upd.refl w _, g, rfl, hg⟩
theorem tb_11 {E : TbD} {W : World} {arr : Array Value} {TH TB : Nat} {CG CO cc : Nat} (T : TbE E W arr TH TB CG CO cc) {o : Oper} {ρ : Operand → Value} {w : World} (h1 : ∀ s, s < 67 → ρ (.tmp s) = arr.getD s undef) (hu : Upd W w (fun _ => False)) (ho : tbOps[11]? = some o) : ∃ v w', (execOp ρ o).run Tryz.prog w = .ok (.value v) w' ∧ Upd w w' (fun _ => False) ∧ GoodK (tbK E CG CO cc 11) v w' := by
  exact ⟨_, _, fl_load w (op_of ho (x := .load 58 (.tmp 4)) (by kernel_rfl)) ((h1 4 (by decide)).trans T.h4) (range_upd T.rt hu T.lt) Tryz.underlying58 rfl (by kernel_rfl), Upd.refl w _, rfl⟩
theorem tb_12 {E : TbD} {W : World} {arr : Array Value} {TH TB : Nat} {CG CO cc : Nat} (T : TbE E W arr TH TB CG CO cc) {o : Oper} {ρ : Operand → Value} {w : World} (h1 : ∀ s, s < 67 → ρ (.tmp s) = arr.getD s undef) (ho : tbOps[12]? = some o) : ∃ v w', (execOp ρ o).run Tryz.prog w = .ok (.value v) w' ∧ Upd w w' (fun _ => False) ∧ GoodK (tbK E CG CO cc 12) v w' := by
  exact ⟨_, _, fl_move w (op_of ho (x := .move (.tmp 8)) (by kernel_rfl)) ((h1 8 (by decide)).trans T.h8), Upd.refl w _, rfl⟩
theorem tb_13 {E : TbD} {CG CO cc : Nat} {o : Oper} {ρ : Operand → Value} {w : World} (h2 : ∀ c, ρ (.const c) = c) (ho : tbOps[13]? = some o) (hd : ∀ e ∈ o.after, Region.binds .any e = true → GoodK (tbK E CG CO cc e.on) (ρ (.tmp (67 + e.on))) w) : ∃ v w', (execOp ρ o).run Tryz.prog w = .ok (.value v) w' ∧ Upd w w' (fun _ => False) ∧ GoodK (tbK E CG CO cc 13) v w' := by
  have hx : ρ (.tmp 79) = .slice (some ⟨CG, CO, none⟩) 3 cc := (dep_of (j := 12) (p := 67) (Good := fun i => GoodK (tbK E CG CO cc i)) ho (by kernel_rfl) hd)
  have k := fl_index (P := Tryz.prog) w (op_of ho (x := .indexAddr 42 (.tmp 79) (.const (.int .i64 0))) (by kernel_rfl)) hx (j := 0) (h2 _) (by omega) Tryz.underlying42 (sz := 3) (by kernel_rfl)
  exact ⟨_, _, k, Upd.refl w _, by simp [GoodK, tbK, Addr.add]⟩
theorem tb_14 {E : TbD} {W : World} {arr : Array Value} {TH TB : Nat} {CG CO cc : Nat} (T : TbE E W arr TH TB CG CO cc) {o : Oper} {ρ : Operand → Value} {w : World} (hu : Upd W w (fun _ => False)) (ho : tbOps[14]? = some o) (hd : ∀ e ∈ o.after, Region.binds .any e = true → GoodK (tbK E CG CO cc e.on) (ρ (.tmp (67 + e.on))) w) : ∃ v w', (execOp ρ o).run Tryz.prog w = .ok (.value v) w' ∧ Upd w w' (fun _ => False) ∧ GoodK (tbK E CG CO cc 14) v w' := by
  have hx : ρ (.tmp 80) = .pointer (some ⟨CG, CO + 0, none⟩) := (dep_of (j := 13) (p := 67) (Good := fun i => GoodK (tbK E CG CO cc i)) ho (by kernel_rfl) hd)
  exact ⟨_, _, fl_load w (op_of ho (x := .load 58 (.tmp 80)) (by kernel_rfl)) hx (range_upd T.r0 hu T.lc) Tryz.underlying58 rfl (by kernel_rfl), Upd.refl w _, rfl⟩
theorem tb_15 {E : TbD} {CG CO cc : Nat} {o : Oper} {ρ : Operand → Value} {w : World} (ho : tbOps[15]? = some o) (hd : ∀ e ∈ o.after, Region.binds .any e = true → GoodK (tbK E CG CO cc e.on) (ρ (.tmp (67 + e.on))) w) : ∃ v w', (execOp ρ o).run Tryz.prog w = .ok (.value v) w' ∧ Upd w w' (fun _ => False) ∧ GoodK (tbK E CG CO cc 15) v w' := by
  have e0 : ρ (.tmp 78) = .agg E.t.cs.toArray := (dep_of (j := 11) (p := 67) (Good := fun i => GoodK (tbK E CG CO cc i)) ho (by kernel_rfl) hd)
  have e1 : ρ (.tmp 81) = .agg E.c0.cs.toArray := (dep_of (j := 14) (p := 67) (Good := fun i => GoodK (tbK E CG CO cc i)) ho (by kernel_rfl) hd)
  obtain ⟨ie, hie, hz, hs, -⟩ := info_p Tryz.infoLA
  have k := fl_buildSlice (P := Tryz.prog) (ρ := ρ) (cells := (arC [E.t, E.c0]).toArray) w (op_of ho (x := .buildSlice 42 2 #[(0, Operand.tmp 78), (1, Operand.tmp 81)]) (by kernel_rfl)) Tryz.underlying42 hie hz (by rw [hs]; decide) (by rw [hs]; decide) (by
    rw [hs]
    simp only [List.map_toArray, List.map_cons, List.map_nil, e0, e1]
    kernel_rfl)
  exact ⟨_, _, k, (Upd.refl w _).alloc _, _, rfl, Vnew1 w _⟩
theorem tb_16 {E : TbD} {CG CO cc : Nat} {o : Oper} {ρ : Operand → Value} {w : World} (h2 : ∀ c, ρ (.const c) = c) (ho : tbOps[16]? = some o) (hd : ∀ e ∈ o.after, Region.binds .any e = true → GoodK (tbK E CG CO cc e.on) (ρ (.tmp (67 + e.on))) w) : ∃ v w', (execOp ρ o).run Tryz.prog w = .ok (.value v) w' ∧ Upd w w' (fun _ => False) ∧ GoodK (tbK E CG CO cc 16) v w' := by
  obtain ⟨g, hv, hg⟩ : GoodK (.bs [E.t, E.c0]) (ρ (.tmp 82)) w := (dep_of (j := 15) (p := 67) (Good := fun i => GoodK (tbK E CG CO cc i)) ho (by kernel_rfl) hd)
  have hs := h2 (.string ⟨#[73, 78, 68, 69, 88]⟩)
  have k := fl_build (P := Tryz.prog) (ρ := ρ) (cells := #[.string ⟨#[73, 78, 68, 69, 88]⟩, .slice (some ⟨g, 0, none⟩) 2 2]) w (op_of ho (x := .build 60 #[(0, .const (.string ⟨#[73, 78, 68, 69, 88]⟩)), (1, .tmp 82)]) (by kernel_rfl)) (by
    simp only [List.map_toArray, List.map_cons, List.map_nil, hs, hv]
    kernel_rfl)
  exact ⟨_, _, k, Upd.refl w _, g, rfl, hg⟩
theorem tb_17 {E : TbD} {W : World} {arr : Array Value} {TH TB : Nat} {CG CO cc : Nat} (T : TbE E W arr TH TB CG CO cc) {o : Oper} {ρ : Operand → Value} {w : World} (h1 : ∀ s, s < 67 → ρ (.tmp s) = arr.getD s undef) (hu : Upd W w (fun _ => False)) (ho : tbOps[17]? = some o) : ∃ v w', (execOp ρ o).run Tryz.prog w = .ok (.value v) w' ∧ Upd w w' (fun _ => False) ∧ GoodK (tbK E CG CO cc 17) v w' := by
  exact ⟨_, _, fl_load w (op_of ho (x := .load 58 (.tmp 4)) (by kernel_rfl)) ((h1 4 (by decide)).trans T.h4) (range_upd T.rt hu T.lt) Tryz.underlying58 rfl (by kernel_rfl), Upd.refl w _, rfl⟩
theorem tb_18 {E : TbD} {W : World} {arr : Array Value} {TH TB : Nat} {CG CO cc : Nat} (T : TbE E W arr TH TB CG CO cc) {o : Oper} {ρ : Operand → Value} {w : World} (h1 : ∀ s, s < 67 → ρ (.tmp s) = arr.getD s undef) (ho : tbOps[18]? = some o) : ∃ v w', (execOp ρ o).run Tryz.prog w = .ok (.value v) w' ∧ Upd w w' (fun _ => False) ∧ GoodK (tbK E CG CO cc 18) v w' := by
  exact ⟨_, _, fl_move w (op_of ho (x := .move (.tmp 8)) (by kernel_rfl)) ((h1 8 (by decide)).trans T.h8), Upd.refl w _, rfl⟩
theorem tb_19 {E : TbD} {CG CO cc : Nat} {o : Oper} {ρ : Operand → Value} {w : World} (h2 : ∀ c, ρ (.const c) = c) (ho : tbOps[19]? = some o) (hd : ∀ e ∈ o.after, Region.binds .any e = true → GoodK (tbK E CG CO cc e.on) (ρ (.tmp (67 + e.on))) w) : ∃ v w', (execOp ρ o).run Tryz.prog w = .ok (.value v) w' ∧ Upd w w' (fun _ => False) ∧ GoodK (tbK E CG CO cc 19) v w' := by
  have hx : ρ (.tmp 85) = .slice (some ⟨CG, CO, none⟩) 3 cc := (dep_of (j := 18) (p := 67) (Good := fun i => GoodK (tbK E CG CO cc i)) ho (by kernel_rfl) hd)
  have k := fl_index (P := Tryz.prog) w (op_of ho (x := .indexAddr 42 (.tmp 85) (.const (.int .i64 0))) (by kernel_rfl)) hx (j := 0) (h2 _) (by omega) Tryz.underlying42 (sz := 3) (by kernel_rfl)
  exact ⟨_, _, k, Upd.refl w _, by simp [GoodK, tbK, Addr.add]⟩
theorem tb_20 {E : TbD} {W : World} {arr : Array Value} {TH TB : Nat} {CG CO cc : Nat} (T : TbE E W arr TH TB CG CO cc) {o : Oper} {ρ : Operand → Value} {w : World} (hu : Upd W w (fun _ => False)) (ho : tbOps[20]? = some o) (hd : ∀ e ∈ o.after, Region.binds .any e = true → GoodK (tbK E CG CO cc e.on) (ρ (.tmp (67 + e.on))) w) : ∃ v w', (execOp ρ o).run Tryz.prog w = .ok (.value v) w' ∧ Upd w w' (fun _ => False) ∧ GoodK (tbK E CG CO cc 20) v w' := by
  have hx : ρ (.tmp 86) = .pointer (some ⟨CG, CO + 0, none⟩) := (dep_of (j := 19) (p := 67) (Good := fun i => GoodK (tbK E CG CO cc i)) ho (by kernel_rfl) hd)
  exact ⟨_, _, fl_load w (op_of ho (x := .load 58 (.tmp 86)) (by kernel_rfl)) hx (range_upd T.r0 hu T.lc) Tryz.underlying58 rfl (by kernel_rfl), Upd.refl w _, rfl⟩
theorem tb_21 {E : TbD} {W : World} {arr : Array Value} {TH TB : Nat} {CG CO cc : Nat} (T : TbE E W arr TH TB CG CO cc) {o : Oper} {ρ : Operand → Value} {w : World} (h1 : ∀ s, s < 67 → ρ (.tmp s) = arr.getD s undef) (ho : tbOps[21]? = some o) : ∃ v w', (execOp ρ o).run Tryz.prog w = .ok (.value v) w' ∧ Upd w w' (fun _ => False) ∧ GoodK (tbK E CG CO cc 21) v w' := by
  exact ⟨_, _, fl_move w (op_of ho (x := .move (.tmp 8)) (by kernel_rfl)) ((h1 8 (by decide)).trans T.h8), Upd.refl w _, rfl⟩
theorem tb_22 {E : TbD} {CG CO cc : Nat} {o : Oper} {ρ : Operand → Value} {w : World} (h2 : ∀ c, ρ (.const c) = c) (ho : tbOps[22]? = some o) (hd : ∀ e ∈ o.after, Region.binds .any e = true → GoodK (tbK E CG CO cc e.on) (ρ (.tmp (67 + e.on))) w) : ∃ v w', (execOp ρ o).run Tryz.prog w = .ok (.value v) w' ∧ Upd w w' (fun _ => False) ∧ GoodK (tbK E CG CO cc 22) v w' := by
  have hx : ρ (.tmp 88) = .slice (some ⟨CG, CO, none⟩) 3 cc := (dep_of (j := 21) (p := 67) (Good := fun i => GoodK (tbK E CG CO cc i)) ho (by kernel_rfl) hd)
  have k := fl_index (P := Tryz.prog) w (op_of ho (x := .indexAddr 42 (.tmp 88) (.const (.int .i64 1))) (by kernel_rfl)) hx (j := 1) (h2 _) (by omega) Tryz.underlying42 (sz := 3) (by kernel_rfl)
  exact ⟨_, _, k, Upd.refl w _, by simp [GoodK, tbK, Addr.add]⟩
theorem tb_23 {E : TbD} {W : World} {arr : Array Value} {TH TB : Nat} {CG CO cc : Nat} (T : TbE E W arr TH TB CG CO cc) {o : Oper} {ρ : Operand → Value} {w : World} (hu : Upd W w (fun _ => False)) (ho : tbOps[23]? = some o) (hd : ∀ e ∈ o.after, Region.binds .any e = true → GoodK (tbK E CG CO cc e.on) (ρ (.tmp (67 + e.on))) w) : ∃ v w', (execOp ρ o).run Tryz.prog w = .ok (.value v) w' ∧ Upd w w' (fun _ => False) ∧ GoodK (tbK E CG CO cc 23) v w' := by
  have hx : ρ (.tmp 89) = .pointer (some ⟨CG, CO + 3, none⟩) := (dep_of (j := 22) (p := 67) (Good := fun i => GoodK (tbK E CG CO cc i)) ho (by kernel_rfl) hd)
  exact ⟨_, _, fl_load w (op_of ho (x := .load 58 (.tmp 89)) (by kernel_rfl)) hx (range_upd T.r1 hu T.lc) Tryz.underlying58 rfl (by kernel_rfl), Upd.refl w _, rfl⟩
theorem tb_24 {E : TbD} {CG CO cc : Nat} {o : Oper} {ρ : Operand → Value} {w : World} (ho : tbOps[24]? = some o) (hd : ∀ e ∈ o.after, Region.binds .any e = true → GoodK (tbK E CG CO cc e.on) (ρ (.tmp (67 + e.on))) w) : ∃ v w', (execOp ρ o).run Tryz.prog w = .ok (.value v) w' ∧ Upd w w' (fun _ => False) ∧ GoodK (tbK E CG CO cc 24) v w' := by
  have e0 : ρ (.tmp 84) = .agg E.t.cs.toArray := (dep_of (j := 17) (p := 67) (Good := fun i => GoodK (tbK E CG CO cc i)) ho (by kernel_rfl) hd)
  have e1 : ρ (.tmp 87) = .agg E.c0.cs.toArray := (dep_of (j := 20) (p := 67) (Good := fun i => GoodK (tbK E CG CO cc i)) ho (by kernel_rfl) hd)
  have e2 : ρ (.tmp 90) = .agg E.c1.cs.toArray := (dep_of (j := 23) (p := 67) (Good := fun i => GoodK (tbK E CG CO cc i)) ho (by kernel_rfl) hd)
  obtain ⟨ie, hie, hz, hs, -⟩ := info_p Tryz.infoLA
  have k := fl_buildSlice (P := Tryz.prog) (ρ := ρ) (cells := (arC [E.t, E.c0, E.c1]).toArray) w (op_of ho (x := .buildSlice 42 3 #[(0, Operand.tmp 84), (1, Operand.tmp 87), (2, Operand.tmp 90)]) (by kernel_rfl)) Tryz.underlying42 hie hz (by rw [hs]; decide) (by rw [hs]; decide) (by
    rw [hs]
    simp only [List.map_toArray, List.map_cons, List.map_nil, e0, e1, e2]
    kernel_rfl)
  exact ⟨_, _, k, (Upd.refl w _).alloc _, _, rfl, Vnew1 w _⟩
theorem tb_25 {E : TbD} {CG CO cc : Nat} {o : Oper} {ρ : Operand → Value} {w : World} (h2 : ∀ c, ρ (.const c) = c) (ho : tbOps[25]? = some o) (hd : ∀ e ∈ o.after, Region.binds .any e = true → GoodK (tbK E CG CO cc e.on) (ρ (.tmp (67 + e.on))) w) : ∃ v w', (execOp ρ o).run Tryz.prog w = .ok (.value v) w' ∧ Upd w w' (fun _ => False) ∧ GoodK (tbK E CG CO cc 25) v w' := by
  obtain ⟨g, hv, hg⟩ : GoodK (.bs [E.t, E.c0, E.c1]) (ρ (.tmp 91)) w := (dep_of (j := 24) (p := 67) (Good := fun i => GoodK (tbK E CG CO cc i)) ho (by kernel_rfl) hd)
  have hs := h2 (.string ⟨#[73, 78, 68, 69, 88]⟩)
  have k := fl_build (P := Tryz.prog) (ρ := ρ) (cells := #[.string ⟨#[73, 78, 68, 69, 88]⟩, .slice (some ⟨g, 0, none⟩) 3 3]) w (op_of ho (x := .build 60 #[(0, .const (.string ⟨#[73, 78, 68, 69, 88]⟩)), (1, .tmp 91)]) (by kernel_rfl)) (by
    simp only [List.map_toArray, List.map_cons, List.map_nil, hs, hv]
    kernel_rfl)
  exact ⟨_, _, k, Upd.refl w _, g, rfl, hg⟩
theorem tb_26 {E : TbD} {W : World} {arr : Array Value} {TH TB : Nat} {CG CO cc : Nat} (T : TbE E W arr TH TB CG CO cc) {o : Oper} {ρ : Operand → Value} {w : World} (h1 : ∀ s, s < 67 → ρ (.tmp s) = arr.getD s undef) (hu : Upd W w (fun _ => False)) (ho : tbOps[26]? = some o) : ∃ v w', (execOp ρ o).run Tryz.prog w = .ok (.value v) w' ∧ Upd w w' (fun _ => False) ∧ GoodK (tbK E CG CO cc 26) v w' := by
  exact ⟨_, _, fl_load w (op_of ho (x := .load 58 (.tmp 7)) (by kernel_rfl)) ((h1 7 (by decide)).trans T.h7) (range_upd T.rh hu T.lh) Tryz.underlying58 rfl (by kernel_rfl), Upd.refl w _, rfl⟩
theorem tb_27 {E : TbD} {W : World} {arr : Array Value} {TH TB : Nat} {CG CO cc : Nat} (T : TbE E W arr TH TB CG CO cc) {o : Oper} {ρ : Operand → Value} {w : World} (h1 : ∀ s, s < 67 → ρ (.tmp s) = arr.getD s undef) (hu : Upd W w (fun _ => False)) (ho : tbOps[27]? = some o) : ∃ v w', (execOp ρ o).run Tryz.prog w = .ok (.value v) w' ∧ Upd w w' (fun _ => False) ∧ GoodK (tbK E CG CO cc 27) v w' := by
  exact ⟨_, _, fl_load w (op_of ho (x := .load 58 (.tmp 4)) (by kernel_rfl)) ((h1 4 (by decide)).trans T.h4) (range_upd T.rt hu T.lt) Tryz.underlying58 rfl (by kernel_rfl), Upd.refl w _, rfl⟩
theorem tb_28 {E : TbD} {W : World} {arr : Array Value} {TH TB : Nat} {CG CO cc : Nat} (T : TbE E W arr TH TB CG CO cc) {o : Oper} {ρ : Operand → Value} {w : World} (h1 : ∀ s, s < 67 → ρ (.tmp s) = arr.getD s undef) (ho : tbOps[28]? = some o) : ∃ v w', (execOp ρ o).run Tryz.prog w = .ok (.value v) w' ∧ Upd w w' (fun _ => False) ∧ GoodK (tbK E CG CO cc 28) v w' := by
  exact ⟨_, _, fl_move w (op_of ho (x := .move (.tmp 8)) (by kernel_rfl)) ((h1 8 (by decide)).trans T.h8), Upd.refl w _, rfl⟩
theorem tb_29 {E : TbD} {CG CO cc : Nat} {o : Oper} {ρ : Operand → Value} {w : World} (h2 : ∀ c, ρ (.const c) = c) (ho : tbOps[29]? = some o) (hd : ∀ e ∈ o.after, Region.binds .any e = true → GoodK (tbK E CG CO cc e.on) (ρ (.tmp (67 + e.on))) w) : ∃ v w', (execOp ρ o).run Tryz.prog w = .ok (.value v) w' ∧ Upd w w' (fun _ => False) ∧ GoodK (tbK E CG CO cc 29) v w' := by
  have hx : ρ (.tmp 95) = .slice (some ⟨CG, CO, none⟩) 3 cc := (dep_of (j := 28) (p := 67) (Good := fun i => GoodK (tbK E CG CO cc i)) ho (by kernel_rfl) hd)
  have k := fl_index (P := Tryz.prog) w (op_of ho (x := .indexAddr 42 (.tmp 95) (.const (.int .i64 0))) (by kernel_rfl)) hx (j := 0) (h2 _) (by omega) Tryz.underlying42 (sz := 3) (by kernel_rfl)
  exact ⟨_, _, k, Upd.refl w _, by simp [GoodK, tbK, Addr.add]⟩
theorem tb_30 {E : TbD} {W : World} {arr : Array Value} {TH TB : Nat} {CG CO cc : Nat} (T : TbE E W arr TH TB CG CO cc) {o : Oper} {ρ : Operand → Value} {w : World} (hu : Upd W w (fun _ => False)) (ho : tbOps[30]? = some o) (hd : ∀ e ∈ o.after, Region.binds .any e = true → GoodK (tbK E CG CO cc e.on) (ρ (.tmp (67 + e.on))) w) : ∃ v w', (execOp ρ o).run Tryz.prog w = .ok (.value v) w' ∧ Upd w w' (fun _ => False) ∧ GoodK (tbK E CG CO cc 30) v w' := by
  have hx : ρ (.tmp 96) = .pointer (some ⟨CG, CO + 0, none⟩) := (dep_of (j := 29) (p := 67) (Good := fun i => GoodK (tbK E CG CO cc i)) ho (by kernel_rfl) hd)
  exact ⟨_, _, fl_load w (op_of ho (x := .load 58 (.tmp 96)) (by kernel_rfl)) hx (range_upd T.r0 hu T.lc) Tryz.underlying58 rfl (by kernel_rfl), Upd.refl w _, rfl⟩
theorem tb_31 {E : TbD} {CG CO cc : Nat} {o : Oper} {ρ : Operand → Value} {w : World} (ho : tbOps[31]? = some o) (hd : ∀ e ∈ o.after, Region.binds .any e = true → GoodK (tbK E CG CO cc e.on) (ρ (.tmp (67 + e.on))) w) : ∃ v w', (execOp ρ o).run Tryz.prog w = .ok (.value v) w' ∧ Upd w w' (fun _ => False) ∧ GoodK (tbK E CG CO cc 31) v w' := by
  have e0 : ρ (.tmp 93) = .agg E.th.cs.toArray := (dep_of (j := 26) (p := 67) (Good := fun i => GoodK (tbK E CG CO cc i)) ho (by kernel_rfl) hd)
  have e1 : ρ (.tmp 94) = .agg E.t.cs.toArray := (dep_of (j := 27) (p := 67) (Good := fun i => GoodK (tbK E CG CO cc i)) ho (by kernel_rfl) hd)
  have e2 : ρ (.tmp 97) = .agg E.c0.cs.toArray := (dep_of (j := 30) (p := 67) (Good := fun i => GoodK (tbK E CG CO cc i)) ho (by kernel_rfl) hd)
  obtain ⟨ie, hie, hz, hs, -⟩ := info_p Tryz.infoLA
  have k := fl_buildSlice (P := Tryz.prog) (ρ := ρ) (cells := (arC [E.th, E.t, E.c0]).toArray) w (op_of ho (x := .buildSlice 42 3 #[(0, Operand.tmp 93), (1, Operand.tmp 94), (2, Operand.tmp 97)]) (by kernel_rfl)) Tryz.underlying42 hie hz (by rw [hs]; decide) (by rw [hs]; decide) (by
    rw [hs]
    simp only [List.map_toArray, List.map_cons, List.map_nil, e0, e1, e2]
    kernel_rfl)
  exact ⟨_, _, k, (Upd.refl w _).alloc _, _, rfl, Vnew1 w _⟩
theorem tb_32 {E : TbD} {CG CO cc : Nat} {o : Oper} {ρ : Operand → Value} {w : World} (h2 : ∀ c, ρ (.const c) = c) (ho : tbOps[32]? = some o) (hd : ∀ e ∈ o.after, Region.binds .any e = true → GoodK (tbK E CG CO cc e.on) (ρ (.tmp (67 + e.on))) w) : ∃ v w', (execOp ρ o).run Tryz.prog w = .ok (.value v) w' ∧ Upd w w' (fun _ => False) ∧ GoodK (tbK E CG CO cc 32) v w' := by
  obtain ⟨g, hv, hg⟩ : GoodK (.bs [E.th, E.t, E.c0]) (ρ (.tmp 98)) w := (dep_of (j := 31) (p := 67) (Good := fun i => GoodK (tbK E CG CO cc i)) ho (by kernel_rfl) hd)
  have hs := h2 (.string ⟨#[86, 76, 79, 79, 75, 85, 80]⟩)
  have k := fl_build (P := Tryz.prog) (ρ := ρ) (cells := #[.string ⟨#[86, 76, 79, 79, 75, 85, 80]⟩, .slice (some ⟨g, 0, none⟩) 3 3]) w (op_of ho (x := .build 60 #[(0, .const (.string ⟨#[86, 76, 79, 79, 75, 85, 80]⟩)), (1, .tmp 98)]) (by kernel_rfl)) (by
    simp only [List.map_toArray, List.map_cons, List.map_nil, hs, hv]
    kernel_rfl)
  exact ⟨_, _, k, Upd.refl w _, g, rfl, hg⟩
theorem tb_33 {E : TbD} {W : World} {arr : Array Value} {TH TB : Nat} {CG CO cc : Nat} (T : TbE E W arr TH TB CG CO cc) {o : Oper} {ρ : Operand → Value} {w : World} (h1 : ∀ s, s < 67 → ρ (.tmp s) = arr.getD s undef) (hu : Upd W w (fun _ => False)) (ho : tbOps[33]? = some o) : ∃ v w', (execOp ρ o).run Tryz.prog w = .ok (.value v) w' ∧ Upd w w' (fun _ => False) ∧ GoodK (tbK E CG CO cc 33) v w' := by
  exact ⟨_, _, fl_load w (op_of ho (x := .load 58 (.tmp 7)) (by kernel_rfl)) ((h1 7 (by decide)).trans T.h7) (range_upd T.rh hu T.lh) Tryz.underlying58 rfl (by kernel_rfl), Upd.refl w _, rfl⟩
theorem tb_34 {E : TbD} {W : World} {arr : Array Value} {TH TB : Nat} {CG CO cc : Nat} (T : TbE E W arr TH TB CG CO cc) {o : Oper} {ρ : Operand → Value} {w : World} (h1 : ∀ s, s < 67 → ρ (.tmp s) = arr.getD s undef) (hu : Upd W w (fun _ => False)) (ho : tbOps[34]? = some o) : ∃ v w', (execOp ρ o).run Tryz.prog w = .ok (.value v) w' ∧ Upd w w' (fun _ => False) ∧ GoodK (tbK E CG CO cc 34) v w' := by
  exact ⟨_, _, fl_load w (op_of ho (x := .load 58 (.tmp 4)) (by kernel_rfl)) ((h1 4 (by decide)).trans T.h4) (range_upd T.rt hu T.lt) Tryz.underlying58 rfl (by kernel_rfl), Upd.refl w _, rfl⟩
theorem tb_35 {E : TbD} {W : World} {arr : Array Value} {TH TB : Nat} {CG CO cc : Nat} (T : TbE E W arr TH TB CG CO cc) {o : Oper} {ρ : Operand → Value} {w : World} (h1 : ∀ s, s < 67 → ρ (.tmp s) = arr.getD s undef) (ho : tbOps[35]? = some o) : ∃ v w', (execOp ρ o).run Tryz.prog w = .ok (.value v) w' ∧ Upd w w' (fun _ => False) ∧ GoodK (tbK E CG CO cc 35) v w' := by
  exact ⟨_, _, fl_move w (op_of ho (x := .move (.tmp 8)) (by kernel_rfl)) ((h1 8 (by decide)).trans T.h8), Upd.refl w _, rfl⟩
theorem tb_36 {E : TbD} {CG CO cc : Nat} {o : Oper} {ρ : Operand → Value} {w : World} (h2 : ∀ c, ρ (.const c) = c) (ho : tbOps[36]? = some o) (hd : ∀ e ∈ o.after, Region.binds .any e = true → GoodK (tbK E CG CO cc e.on) (ρ (.tmp (67 + e.on))) w) : ∃ v w', (execOp ρ o).run Tryz.prog w = .ok (.value v) w' ∧ Upd w w' (fun _ => False) ∧ GoodK (tbK E CG CO cc 36) v w' := by
  have hx : ρ (.tmp 102) = .slice (some ⟨CG, CO, none⟩) 3 cc := (dep_of (j := 35) (p := 67) (Good := fun i => GoodK (tbK E CG CO cc i)) ho (by kernel_rfl) hd)
  have k := fl_index (P := Tryz.prog) w (op_of ho (x := .indexAddr 42 (.tmp 102) (.const (.int .i64 0))) (by kernel_rfl)) hx (j := 0) (h2 _) (by omega) Tryz.underlying42 (sz := 3) (by kernel_rfl)
  exact ⟨_, _, k, Upd.refl w _, by simp [GoodK, tbK, Addr.add]⟩
theorem tb_37 {E : TbD} {W : World} {arr : Array Value} {TH TB : Nat} {CG CO cc : Nat} (T : TbE E W arr TH TB CG CO cc) {o : Oper} {ρ : Operand → Value} {w : World} (hu : Upd W w (fun _ => False)) (ho : tbOps[37]? = some o) (hd : ∀ e ∈ o.after, Region.binds .any e = true → GoodK (tbK E CG CO cc e.on) (ρ (.tmp (67 + e.on))) w) : ∃ v w', (execOp ρ o).run Tryz.prog w = .ok (.value v) w' ∧ Upd w w' (fun _ => False) ∧ GoodK (tbK E CG CO cc 37) v w' := by
  have hx : ρ (.tmp 103) = .pointer (some ⟨CG, CO + 0, none⟩) := (dep_of (j := 36) (p := 67) (Good := fun i => GoodK (tbK E CG CO cc i)) ho (by kernel_rfl) hd)
  exact ⟨_, _, fl_load w (op_of ho (x := .load 58 (.tmp 103)) (by kernel_rfl)) hx (range_upd T.r0 hu T.lc) Tryz.underlying58 rfl (by kernel_rfl), Upd.refl w _, rfl⟩
theorem tb_38 {E : TbD} {W : World} {arr : Array Value} {TH TB : Nat} {CG CO cc : Nat} (T : TbE E W arr TH TB CG CO cc) {o : Oper} {ρ : Operand → Value} {w : World} (h1 : ∀ s, s < 67 → ρ (.tmp s) = arr.getD s undef) (ho : tbOps[38]? = some o) : ∃ v w', (execOp ρ o).run Tryz.prog w = .ok (.value v) w' ∧ Upd w w' (fun _ => False) ∧ GoodK (tbK E CG CO cc 38) v w' := by
  exact ⟨_, _, fl_move w (op_of ho (x := .move (.tmp 8)) (by kernel_rfl)) ((h1 8 (by decide)).trans T.h8), Upd.refl w _, rfl⟩
theorem tb_39 {E : TbD} {CG CO cc : Nat} {o : Oper} {ρ : Operand → Value} {w : World} (h2 : ∀ c, ρ (.const c) = c) (ho : tbOps[39]? = some o) (hd : ∀ e ∈ o.after, Region.binds .any e = true → GoodK (tbK E CG CO cc e.on) (ρ (.tmp (67 + e.on))) w) : ∃ v w', (execOp ρ o).run Tryz.prog w = .ok (.value v) w' ∧ Upd w w' (fun _ => False) ∧ GoodK (tbK E CG CO cc 39) v w' := by
  have hx : ρ (.tmp 105) = .slice (some ⟨CG, CO, none⟩) 3 cc := (dep_of (j := 38) (p := 67) (Good := fun i => GoodK (tbK E CG CO cc i)) ho (by kernel_rfl) hd)
  have k := fl_index (P := Tryz.prog) w (op_of ho (x := .indexAddr 42 (.tmp 105) (.const (.int .i64 1))) (by kernel_rfl)) hx (j := 1) (h2 _) (by omega) Tryz.underlying42 (sz := 3) (by kernel_rfl)
  exact ⟨_, _, k, Upd.refl w _, by simp [GoodK, tbK, Addr.add]⟩
theorem tb_40 {E : TbD} {W : World} {arr : Array Value} {TH TB : Nat} {CG CO cc : Nat} (T : TbE E W arr TH TB CG CO cc) {o : Oper} {ρ : Operand → Value} {w : World} (hu : Upd W w (fun _ => False)) (ho : tbOps[40]? = some o) (hd : ∀ e ∈ o.after, Region.binds .any e = true → GoodK (tbK E CG CO cc e.on) (ρ (.tmp (67 + e.on))) w) : ∃ v w', (execOp ρ o).run Tryz.prog w = .ok (.value v) w' ∧ Upd w w' (fun _ => False) ∧ GoodK (tbK E CG CO cc 40) v w' := by
  have hx : ρ (.tmp 106) = .pointer (some ⟨CG, CO + 3, none⟩) := (dep_of (j := 39) (p := 67) (Good := fun i => GoodK (tbK E CG CO cc i)) ho (by kernel_rfl) hd)
  exact ⟨_, _, fl_load w (op_of ho (x := .load 58 (.tmp 106)) (by kernel_rfl)) hx (range_upd T.r1 hu T.lc) Tryz.underlying58 rfl (by kernel_rfl), Upd.refl w _, rfl⟩
theorem tb_41 {E : TbD} {CG CO cc : Nat} {o : Oper} {ρ : Operand → Value} {w : World} (ho : tbOps[41]? = some o) (hd : ∀ e ∈ o.after, Region.binds .any e = true → GoodK (tbK E CG CO cc e.on) (ρ (.tmp (67 + e.on))) w) : ∃ v w', (execOp ρ o).run Tryz.prog w = .ok (.value v) w' ∧ Upd w w' (fun _ => False) ∧ GoodK (tbK E CG CO cc 41) v w' := by
  have e0 : ρ (.tmp 100) = .agg E.th.cs.toArray := (dep_of (j := 33) (p := 67) (Good := fun i => GoodK (tbK E CG CO cc i)) ho (by kernel_rfl) hd)
  have e1 : ρ (.tmp 101) = .agg E.t.cs.toArray := (dep_of (j := 34) (p := 67) (Good := fun i => GoodK (tbK E CG CO cc i)) ho (by kernel_rfl) hd)
  have e2 : ρ (.tmp 104) = .agg E.c0.cs.toArray := (dep_of (j := 37) (p := 67) (Good := fun i => GoodK (tbK E CG CO cc i)) ho (by kernel_rfl) hd)
  have e3 : ρ (.tmp 107) = .agg E.c1.cs.toArray := (dep_of (j := 40) (p := 67) (Good := fun i => GoodK (tbK E CG CO cc i)) ho (by kernel_rfl) hd)
  obtain ⟨ie, hie, hz, hs, -⟩ := info_p Tryz.infoLA
  have k := fl_buildSlice (P := Tryz.prog) (ρ := ρ) (cells := (arC [E.th, E.t, E.c0, E.c1]).toArray) w (op_of ho (x := .buildSlice 42 4 #[(0, Operand.tmp 100), (1, Operand.tmp 101), (2, Operand.tmp 104), (3, Operand.tmp 107)]) (by kernel_rfl)) Tryz.underlying42 hie hz (by rw [hs]; decide) (by rw [hs]; decide) (by
    rw [hs]
    simp only [List.map_toArray, List.map_cons, List.map_nil, e0, e1, e2, e3]
    kernel_rfl)
  exact ⟨_, _, k, (Upd.refl w _).alloc _, _, rfl, Vnew1 w _⟩
theorem tb_42 {E : TbD} {CG CO cc : Nat} {o : Oper} {ρ : Operand → Value} {w : World} (h2 : ∀ c, ρ (.const c) = c) (ho : tbOps[42]? = some o) (hd : ∀ e ∈ o.after, Region.binds .any e = true → GoodK (tbK E CG CO cc e.on) (ρ (.tmp (67 + e.on))) w) : ∃ v w', (execOp ρ o).run Tryz.prog w = .ok (.value v) w' ∧ Upd w w' (fun _ => False) ∧ GoodK (tbK E CG CO cc 42) v w' := by
  obtain ⟨g, hv, hg⟩ : GoodK (.bs [E.th, E.t, E.c0, E.c1]) (ρ (.tmp 108)) w := (dep_of (j := 41) (p := 67) (Good := fun i => GoodK (tbK E CG CO cc i)) ho (by kernel_rfl) hd)
  have hs := h2 (.string ⟨#[86, 76, 79, 79, 75, 85, 80]⟩)
  have k := fl_build (P := Tryz.prog) (ρ := ρ) (cells := #[.string ⟨#[86, 76, 79, 79, 75, 85, 80]⟩, .slice (some ⟨g, 0, none⟩) 4 4]) w (op_of ho (x := .build 60 #[(0, .const (.string ⟨#[86, 76, 79, 79, 75, 85, 80]⟩)), (1, .tmp 108)]) (by kernel_rfl)) (by
    simp only [List.map_toArray, List.map_cons, List.map_nil, hs, hv]
    kernel_rfl)
  exact ⟨_, _, k, Upd.refl w _, g, rfl, hg⟩
theorem tb_43 {E : TbD} {W : World} {arr : Array Value} {TH TB : Nat} {CG CO cc : Nat} (T : TbE E W arr TH TB CG CO cc) {o : Oper} {ρ : Operand → Value} {w : World} (h1 : ∀ s, s < 67 → ρ (.tmp s) = arr.getD s undef) (hu : Upd W w (fun _ => False)) (ho : tbOps[43]? = some o) : ∃ v w', (execOp ρ o).run Tryz.prog w = .ok (.value v) w' ∧ Upd w w' (fun _ => False) ∧ GoodK (tbK E CG CO cc 43) v w' := by
  exact ⟨_, _, fl_load w (op_of ho (x := .load 58 (.tmp 7)) (by kernel_rfl)) ((h1 7 (by decide)).trans T.h7) (range_upd T.rh hu T.lh) Tryz.underlying58 rfl (by kernel_rfl), Upd.refl w _, rfl⟩
theorem tb_44 {E : TbD} {W : World} {arr : Array Value} {TH TB : Nat} {CG CO cc : Nat} (T : TbE E W arr TH TB CG CO cc) {o : Oper} {ρ : Operand → Value} {w : World} (h1 : ∀ s, s < 67 → ρ (.tmp s) = arr.getD s undef) (hu : Upd W w (fun _ => False)) (ho : tbOps[44]? = some o) : ∃ v w', (execOp ρ o).run Tryz.prog w = .ok (.value v) w' ∧ Upd w w' (fun _ => False) ∧ GoodK (tbK E CG CO cc 44) v w' := by
  exact ⟨_, _, fl_load w (op_of ho (x := .load 58 (.tmp 4)) (by kernel_rfl)) ((h1 4 (by decide)).trans T.h4) (range_upd T.rt hu T.lt) Tryz.underlying58 rfl (by kernel_rfl), Upd.refl w _, rfl⟩
theorem tb_45 {E : TbD} {W : World} {arr : Array Value} {TH TB : Nat} {CG CO cc : Nat} (T : TbE E W arr TH TB CG CO cc) {o : Oper} {ρ : Operand → Value} {w : World} (h1 : ∀ s, s < 67 → ρ (.tmp s) = arr.getD s undef) (ho : tbOps[45]? = some o) : ∃ v w', (execOp ρ o).run Tryz.prog w = .ok (.value v) w' ∧ Upd w w' (fun _ => False) ∧ GoodK (tbK E CG CO cc 45) v w' := by
  exact ⟨_, _, fl_move w (op_of ho (x := .move (.tmp 8)) (by kernel_rfl)) ((h1 8 (by decide)).trans T.h8), Upd.refl w _, rfl⟩
theorem tb_46 {E : TbD} {CG CO cc : Nat} {o : Oper} {ρ : Operand → Value} {w : World} (h2 : ∀ c, ρ (.const c) = c) (ho : tbOps[46]? = some o) (hd : ∀ e ∈ o.after, Region.binds .any e = true → GoodK (tbK E CG CO cc e.on) (ρ (.tmp (67 + e.on))) w) : ∃ v w', (execOp ρ o).run Tryz.prog w = .ok (.value v) w' ∧ Upd w w' (fun _ => False) ∧ GoodK (tbK E CG CO cc 46) v w' := by
  have hx : ρ (.tmp 112) = .slice (some ⟨CG, CO, none⟩) 3 cc := (dep_of (j := 45) (p := 67) (Good := fun i => GoodK (tbK E CG CO cc i)) ho (by kernel_rfl) hd)
  have k := fl_index (P := Tryz.prog) w (op_of ho (x := .indexAddr 42 (.tmp 112) (.const (.int .i64 0))) (by kernel_rfl)) hx (j := 0) (h2 _) (by omega) Tryz.underlying42 (sz := 3) (by kernel_rfl)
  exact ⟨_, _, k, Upd.refl w _, by simp [GoodK, tbK, Addr.add]⟩
theorem tb_47 {E : TbD} {W : World} {arr : Array Value} {TH TB : Nat} {CG CO cc : Nat} (T : TbE E W arr TH TB CG CO cc) {o : Oper} {ρ : Operand → Value} {w : World} (hu : Upd W w (fun _ => False)) (ho : tbOps[47]? = some o) (hd : ∀ e ∈ o.after, Region.binds .any e = true → GoodK (tbK E CG CO cc e.on) (ρ (.tmp (67 + e.on))) w) : ∃ v w', (execOp ρ o).run Tryz.prog w = .ok (.value v) w' ∧ Upd w w' (fun _ => False) ∧ GoodK (tbK E CG CO cc 47) v w' := by
  have hx : ρ (.tmp 113) = .pointer (some ⟨CG, CO + 0, none⟩) := (dep_of (j := 46) (p := 67) (Good := fun i => GoodK (tbK E CG CO cc i)) ho (by kernel_rfl) hd)
  exact ⟨_, _, fl_load w (op_of ho (x := .load 58 (.tmp 113)) (by kernel_rfl)) hx (range_upd T.r0 hu T.lc) Tryz.underlying58 rfl (by kernel_rfl), Upd.refl w _, rfl⟩
theorem tb_48 {E : TbD} {W : World} {arr : Array Value} {TH TB : Nat} {CG CO cc : Nat} (T : TbE E W arr TH TB CG CO cc) {o : Oper} {ρ : Operand → Value} {w : World} (h1 : ∀ s, s < 67 → ρ (.tmp s) = arr.getD s undef) (ho : tbOps[48]? = some o) : ∃ v w', (execOp ρ o).run Tryz.prog w = .ok (.value v) w' ∧ Upd w w' (fun _ => False) ∧ GoodK (tbK E CG CO cc 48) v w' := by
  exact ⟨_, _, fl_move w (op_of ho (x := .move (.tmp 8)) (by kernel_rfl)) ((h1 8 (by decide)).trans T.h8), Upd.refl w _, rfl⟩
theorem tb_49 {E : TbD} {CG CO cc : Nat} {o : Oper} {ρ : Operand → Value} {w : World} (h2 : ∀ c, ρ (.const c) = c) (ho : tbOps[49]? = some o) (hd : ∀ e ∈ o.after, Region.binds .any e = true → GoodK (tbK E CG CO cc e.on) (ρ (.tmp (67 + e.on))) w) : ∃ v w', (execOp ρ o).run Tryz.prog w = .ok (.value v) w' ∧ Upd w w' (fun _ => False) ∧ GoodK (tbK E CG CO cc 49) v w' := by
  have hx : ρ (.tmp 115) = .slice (some ⟨CG, CO, none⟩) 3 cc := (dep_of (j := 48) (p := 67) (Good := fun i => GoodK (tbK E CG CO cc i)) ho (by kernel_rfl) hd)
  have k := fl_index (P := Tryz.prog) w (op_of ho (x := .indexAddr 42 (.tmp 115) (.const (.int .i64 2))) (by kernel_rfl)) hx (j := 2) (h2 _) (by omega) Tryz.underlying42 (sz := 3) (by kernel_rfl)
  exact ⟨_, _, k, Upd.refl w _, by simp [GoodK, tbK, Addr.add]⟩
theorem tb_50 {E : TbD} {W : World} {arr : Array Value} {TH TB : Nat} {CG CO cc : Nat} (T : TbE E W arr TH TB CG CO cc) {o : Oper} {ρ : Operand → Value} {w : World} (hu : Upd W w (fun _ => False)) (ho : tbOps[50]? = some o) (hd : ∀ e ∈ o.after, Region.binds .any e = true → GoodK (tbK E CG CO cc e.on) (ρ (.tmp (67 + e.on))) w) : ∃ v w', (execOp ρ o).run Tryz.prog w = .ok (.value v) w' ∧ Upd w w' (fun _ => False) ∧ GoodK (tbK E CG CO cc 50) v w' := by
  have hx : ρ (.tmp 116) = .pointer (some ⟨CG, CO + 6, none⟩) := (dep_of (j := 49) (p := 67) (Good := fun i => GoodK (tbK E CG CO cc i)) ho (by kernel_rfl) hd)
  exact ⟨_, _, fl_load w (op_of ho (x := .load 58 (.tmp 116)) (by kernel_rfl)) hx (range_upd T.r2 hu T.lc) Tryz.underlying58 rfl (by kernel_rfl), Upd.refl w _, rfl⟩
theorem tb_51 {E : TbD} {CG CO cc : Nat} {o : Oper} {ρ : Operand → Value} {w : World} (ho : tbOps[51]? = some o) (hd : ∀ e ∈ o.after, Region.binds .any e = true → GoodK (tbK E CG CO cc e.on) (ρ (.tmp (67 + e.on))) w) : ∃ v w', (execOp ρ o).run Tryz.prog w = .ok (.value v) w' ∧ Upd w w' (fun _ => False) ∧ GoodK (tbK E CG CO cc 51) v w' := by
  have e0 : ρ (.tmp 110) = .agg E.th.cs.toArray := (dep_of (j := 43) (p := 67) (Good := fun i => GoodK (tbK E CG CO cc i)) ho (by kernel_rfl) hd)
  have e1 : ρ (.tmp 111) = .agg E.t.cs.toArray := (dep_of (j := 44) (p := 67) (Good := fun i => GoodK (tbK E CG CO cc i)) ho (by kernel_rfl) hd)
  have e2 : ρ (.tmp 114) = .agg E.c0.cs.toArray := (dep_of (j := 47) (p := 67) (Good := fun i => GoodK (tbK E CG CO cc i)) ho (by kernel_rfl) hd)
  have e3 : ρ (.tmp 117) = .agg E.c2.cs.toArray := (dep_of (j := 50) (p := 67) (Good := fun i => GoodK (tbK E CG CO cc i)) ho (by kernel_rfl) hd)
  obtain ⟨ie, hie, hz, hs, -⟩ := info_p Tryz.infoLA
  have k := fl_buildSlice (P := Tryz.prog) (ρ := ρ) (cells := (arC [E.th, E.t, E.c0, E.c2]).toArray) w (op_of ho (x := .buildSlice 42 4 #[(0, Operand.tmp 110), (1, Operand.tmp 111), (2, Operand.tmp 114), (3, Operand.tmp 117)]) (by kernel_rfl)) Tryz.underlying42 hie hz (by rw [hs]; decide) (by rw [hs]; decide) (by
    rw [hs]
    simp only [List.map_toArray, List.map_cons, List.map_nil, e0, e1, e2, e3]
    kernel_rfl)
  exact ⟨_, _, k, (Upd.refl w _).alloc _, _, rfl, Vnew1 w _⟩
theorem tb_52 {E : TbD} {CG CO cc : Nat} {o : Oper} {ρ : Operand → Value} {w : World} (h2 : ∀ c, ρ (.const c) = c) (ho : tbOps[52]? = some o) (hd : ∀ e ∈ o.after, Region.binds .any e = true → GoodK (tbK E CG CO cc e.on) (ρ (.tmp (67 + e.on))) w) : ∃ v w', (execOp ρ o).run Tryz.prog w = .ok (.value v) w' ∧ Upd w w' (fun _ => False) ∧ GoodK (tbK E CG CO cc 52) v w' := by
  obtain ⟨g, hv, hg⟩ : GoodK (.bs [E.th, E.t, E.c0, E.c2]) (ρ (.tmp 118)) w := (dep_of (j := 51) (p := 67) (Good := fun i => GoodK (tbK E CG CO cc i)) ho (by kernel_rfl) hd)
  have hs := h2 (.string ⟨#[72, 76, 79, 79, 75, 85, 80]⟩)
  have k := fl_build (P := Tryz.prog) (ρ := ρ) (cells := #[.string ⟨#[72, 76, 79, 79, 75, 85, 80]⟩, .slice (some ⟨g, 0, none⟩) 4 4]) w (op_of ho (x := .build 60 #[(0, .const (.string ⟨#[72, 76, 79, 79, 75, 85, 80]⟩)), (1, .tmp 118)]) (by kernel_rfl)) (by
    simp only [List.map_toArray, List.map_cons, List.map_nil, hs, hv]
    kernel_rfl)
  exact ⟨_, _, k, Upd.refl w _, g, rfl, hg⟩
theorem tb_53 {E : TbD} {W : World} {arr : Array Value} {TH TB : Nat} {CG CO cc : Nat} (T : TbE E W arr TH TB CG CO cc) {o : Oper} {ρ : Operand → Value} {w : World} (h1 : ∀ s, s < 67 → ρ (.tmp s) = arr.getD s undef) (hu : Upd W w (fun _ => False)) (ho : tbOps[53]? = some o) : ∃ v w', (execOp ρ o).run Tryz.prog w = .ok (.value v) w' ∧ Upd w w' (fun _ => False) ∧ GoodK (tbK E CG CO cc 53) v w' := by
  exact ⟨_, _, fl_load w (op_of ho (x := .load 58 (.tmp 7)) (by kernel_rfl)) ((h1 7 (by decide)).trans T.h7) (range_upd T.rh hu T.lh) Tryz.underlying58 rfl (by kernel_rfl), Upd.refl w _, rfl⟩
theorem tb_54 {E : TbD} {W : World} {arr : Array Value} {TH TB : Nat} {CG CO cc : Nat} (T : TbE E W arr TH TB CG CO cc) {o : Oper} {ρ : Operand → Value} {w : World} (h1 : ∀ s, s < 67 → ρ (.tmp s) = arr.getD s undef) (hu : Upd W w (fun _ => False)) (ho : tbOps[54]? = some o) : ∃ v w', (execOp ρ o).run Tryz.prog w = .ok (.value v) w' ∧ Upd w w' (fun _ => False) ∧ GoodK (tbK E CG CO cc 54) v w' := by
  exact ⟨_, _, fl_load w (op_of ho (x := .load 58 (.tmp 4)) (by kernel_rfl)) ((h1 4 (by decide)).trans T.h4) (range_upd T.rt hu T.lt) Tryz.underlying58 rfl (by kernel_rfl), Upd.refl w _, rfl⟩
theorem tb_55 {E : TbD} {W : World} {arr : Array Value} {TH TB : Nat} {CG CO cc : Nat} (T : TbE E W arr TH TB CG CO cc) {o : Oper} {ρ : Operand → Value} {w : World} (h1 : ∀ s, s < 67 → ρ (.tmp s) = arr.getD s undef) (hu : Upd W w (fun _ => False)) (ho : tbOps[55]? = some o) : ∃ v w', (execOp ρ o).run Tryz.prog w = .ok (.value v) w' ∧ Upd w w' (fun _ => False) ∧ GoodK (tbK E CG CO cc 55) v w' := by
  exact ⟨_, _, fl_load w (op_of ho (x := .load 58 (.tmp 4)) (by kernel_rfl)) ((h1 4 (by decide)).trans T.h4) (range_upd T.rt hu T.lt) Tryz.underlying58 rfl (by kernel_rfl), Upd.refl w _, rfl⟩
theorem tb_56 {E : TbD} {CG CO cc : Nat} {o : Oper} {ρ : Operand → Value} {w : World} (ho : tbOps[56]? = some o) (hd : ∀ e ∈ o.after, Region.binds .any e = true → GoodK (tbK E CG CO cc e.on) (ρ (.tmp (67 + e.on))) w) : ∃ v w', (execOp ρ o).run Tryz.prog w = .ok (.value v) w' ∧ Upd w w' (fun _ => False) ∧ GoodK (tbK E CG CO cc 56) v w' := by
  have e0 : ρ (.tmp 120) = .agg E.th.cs.toArray := (dep_of (j := 53) (p := 67) (Good := fun i => GoodK (tbK E CG CO cc i)) ho (by kernel_rfl) hd)
  have e1 : ρ (.tmp 121) = .agg E.t.cs.toArray := (dep_of (j := 54) (p := 67) (Good := fun i => GoodK (tbK E CG CO cc i)) ho (by kernel_rfl) hd)
  have e2 : ρ (.tmp 122) = .agg E.t.cs.toArray := (dep_of (j := 55) (p := 67) (Good := fun i => GoodK (tbK E CG CO cc i)) ho (by kernel_rfl) hd)
  obtain ⟨ie, hie, hz, hs, -⟩ := info_p Tryz.infoLA
  have k := fl_buildSlice (P := Tryz.prog) (ρ := ρ) (cells := (arC [E.th, E.t, E.t]).toArray) w (op_of ho (x := .buildSlice 42 3 #[(0, Operand.tmp 120), (1, Operand.tmp 121), (2, Operand.tmp 122)]) (by kernel_rfl)) Tryz.underlying42 hie hz (by rw [hs]; decide) (by rw [hs]; decide) (by
    rw [hs]
    simp only [List.map_toArray, List.map_cons, List.map_nil, e0, e1, e2]
    kernel_rfl)
  exact ⟨_, _, k, (Upd.refl w _).alloc _, _, rfl, Vnew1 w _⟩
theorem tb_57 {E : TbD} {CG CO cc : Nat} {o : Oper} {ρ : Operand → Value} {w : World} (h2 : ∀ c, ρ (.const c) = c) (ho : tbOps[57]? = some o) (hd : ∀ e ∈ o.after, Region.binds .any e = true → GoodK (tbK E CG CO cc e.on) (ρ (.tmp (67 + e.on))) w) : ∃ v w', (execOp ρ o).run Tryz.prog w = .ok (.value v) w' ∧ Upd w w' (fun _ => False) ∧ GoodK (tbK E CG CO cc 57) v w' := by
  obtain ⟨g, hv, hg⟩ : GoodK (.bs [E.th, E.t, E.t]) (ρ (.tmp 123)) w := (dep_of (j := 56) (p := 67) (Good := fun i => GoodK (tbK E CG CO cc i)) ho (by kernel_rfl) hd)
  have hs := h2 (.string ⟨#[76, 79, 79, 75, 85, 80]⟩)
  have k := fl_build (P := Tryz.prog) (ρ := ρ) (cells := #[.string ⟨#[76, 79, 79, 75, 85, 80]⟩, .slice (some ⟨g, 0, none⟩) 3 3]) w (op_of ho (x := .build 60 #[(0, .const (.string ⟨#[76, 79, 79, 75, 85, 80]⟩)), (1, .tmp 123)]) (by kernel_rfl)) (by
    simp only [List.map_toArray, List.map_cons, List.map_nil, hs, hv]
    kernel_rfl)
  exact ⟨_, _, k, Upd.refl w _, g, rfl, hg⟩
theorem tb_58 {E : TbD} {W : World} {arr : Array Value} {TH TB : Nat} {CG CO cc : Nat} (T : TbE E W arr TH TB CG CO cc) {o : Oper} {ρ : Operand → Value} {w : World} (h1 : ∀ s, s < 67 → ρ (.tmp s) = arr.getD s undef) (ho : tbOps[58]? = some o) : ∃ v w', (execOp ρ o).run Tryz.prog w = .ok (.value v) w' ∧ Upd w w' (fun _ => False) ∧ GoodK (tbK E CG CO cc 58) v w' := by
  exact ⟨_, _, fl_move w (op_of ho (x := .move (.tmp 8)) (by kernel_rfl)) ((h1 8 (by decide)).trans T.h8), Upd.refl w _, rfl⟩
theorem tb_59 {E : TbD} {CG CO cc : Nat} {o : Oper} {ρ : Operand → Value} {w : World} (h2 : ∀ c, ρ (.const c) = c) (ho : tbOps[59]? = some o) (hd : ∀ e ∈ o.after, Region.binds .any e = true → GoodK (tbK E CG CO cc e.on) (ρ (.tmp (67 + e.on))) w) : ∃ v w', (execOp ρ o).run Tryz.prog w = .ok (.value v) w' ∧ Upd w w' (fun _ => False) ∧ GoodK (tbK E CG CO cc 59) v w' := by
  have hx : ρ (.tmp 125) = .slice (some ⟨CG, CO, none⟩) 3 cc := (dep_of (j := 58) (p := 67) (Good := fun i => GoodK (tbK E CG CO cc i)) ho (by kernel_rfl) hd)
  have k := fl_index (P := Tryz.prog) w (op_of ho (x := .indexAddr 42 (.tmp 125) (.const (.int .i64 0))) (by kernel_rfl)) hx (j := 0) (h2 _) (by omega) Tryz.underlying42 (sz := 3) (by kernel_rfl)
  exact ⟨_, _, k, Upd.refl w _, by simp [GoodK, tbK, Addr.add]⟩
theorem tb_60 {E : TbD} {W : World} {arr : Array Value} {TH TB : Nat} {CG CO cc : Nat} (T : TbE E W arr TH TB CG CO cc) {o : Oper} {ρ : Operand → Value} {w : World} (hu : Upd W w (fun _ => False)) (ho : tbOps[60]? = some o) (hd : ∀ e ∈ o.after, Region.binds .any e = true → GoodK (tbK E CG CO cc e.on) (ρ (.tmp (67 + e.on))) w) : ∃ v w', (execOp ρ o).run Tryz.prog w = .ok (.value v) w' ∧ Upd w w' (fun _ => False) ∧ GoodK (tbK E CG CO cc 60) v w' := by
  have hx : ρ (.tmp 126) = .pointer (some ⟨CG, CO + 0, none⟩) := (dep_of (j := 59) (p := 67) (Good := fun i => GoodK (tbK E CG CO cc i)) ho (by kernel_rfl) hd)
  exact ⟨_, _, fl_load w (op_of ho (x := .load 58 (.tmp 126)) (by kernel_rfl)) hx (range_upd T.r0 hu T.lc) Tryz.underlying58 rfl (by kernel_rfl), Upd.refl w _, rfl⟩
theorem tb_61 {E : TbD} {W : World} {arr : Array Value} {TH TB : Nat} {CG CO cc : Nat} (T : TbE E W arr TH TB CG CO cc) {o : Oper} {ρ : Operand → Value} {w : World} (h1 : ∀ s, s < 67 → ρ (.tmp s) = arr.getD s undef) (hu : Upd W w (fun _ => False)) (ho : tbOps[61]? = some o) : ∃ v w', (execOp ρ o).run Tryz.prog w = .ok (.value v) w' ∧ Upd w w' (fun _ => False) ∧ GoodK (tbK E CG CO cc 61) v w' := by
  exact ⟨_, _, fl_load w (op_of ho (x := .load 58 (.tmp 7)) (by kernel_rfl)) ((h1 7 (by decide)).trans T.h7) (range_upd T.rh hu T.lh) Tryz.underlying58 rfl (by kernel_rfl), Upd.refl w _, rfl⟩
theorem tb_62 {E : TbD} {W : World} {arr : Array Value} {TH TB : Nat} {CG CO cc : Nat} (T : TbE E W arr TH TB CG CO cc) {o : Oper} {ρ : Operand → Value} {w : World} (h1 : ∀ s, s < 67 → ρ (.tmp s) = arr.getD s undef) (ho : tbOps[62]? = some o) : ∃ v w', (execOp ρ o).run Tryz.prog w = .ok (.value v) w' ∧ Upd w w' (fun _ => False) ∧ GoodK (tbK E CG CO cc 62) v w' := by
  exact ⟨_, _, fl_move w (op_of ho (x := .move (.tmp 8)) (by kernel_rfl)) ((h1 8 (by decide)).trans T.h8), Upd.refl w _, rfl⟩
theorem tb_63 {E : TbD} {CG CO cc : Nat} {o : Oper} {ρ : Operand → Value} {w : World} (h2 : ∀ c, ρ (.const c) = c) (ho : tbOps[63]? = some o) (hd : ∀ e ∈ o.after, Region.binds .any e = true → GoodK (tbK E CG CO cc e.on) (ρ (.tmp (67 + e.on))) w) : ∃ v w', (execOp ρ o).run Tryz.prog w = .ok (.value v) w' ∧ Upd w w' (fun _ => False) ∧ GoodK (tbK E CG CO cc 63) v w' := by
  have hx : ρ (.tmp 129) = .slice (some ⟨CG, CO, none⟩) 3 cc := (dep_of (j := 62) (p := 67) (Good := fun i => GoodK (tbK E CG CO cc i)) ho (by kernel_rfl) hd)
  have k := fl_index (P := Tryz.prog) w (op_of ho (x := .indexAddr 42 (.tmp 129) (.const (.int .i64 1))) (by kernel_rfl)) hx (j := 1) (h2 _) (by omega) Tryz.underlying42 (sz := 3) (by kernel_rfl)
  exact ⟨_, _, k, Upd.refl w _, by simp [GoodK, tbK, Addr.add]⟩
theorem tb_64 {E : TbD} {W : World} {arr : Array Value} {TH TB : Nat} {CG CO cc : Nat} (T : TbE E W arr TH TB CG CO cc) {o : Oper} {ρ : Operand → Value} {w : World} (hu : Upd W w (fun _ => False)) (ho : tbOps[64]? = some o) (hd : ∀ e ∈ o.after, Region.binds .any e = true → GoodK (tbK E CG CO cc e.on) (ρ (.tmp (67 + e.on))) w) : ∃ v w', (execOp ρ o).run Tryz.prog w = .ok (.value v) w' ∧ Upd w w' (fun _ => False) ∧ GoodK (tbK E CG CO cc 64) v w' := by
  have hx : ρ (.tmp 130) = .pointer (some ⟨CG, CO + 3, none⟩) := (dep_of (j := 63) (p := 67) (Good := fun i => GoodK (tbK E CG CO cc i)) ho (by kernel_rfl) hd)
  exact ⟨_, _, fl_load w (op_of ho (x := .load 58 (.tmp 130)) (by kernel_rfl)) hx (range_upd T.r1 hu T.lc) Tryz.underlying58 rfl (by kernel_rfl), Upd.refl w _, rfl⟩
theorem tb_65 {E : TbD} {W : World} {arr : Array Value} {TH TB : Nat} {CG CO cc : Nat} (T : TbE E W arr TH TB CG CO cc) {o : Oper} {ρ : Operand → Value} {w : World} (h1 : ∀ s, s < 67 → ρ (.tmp s) = arr.getD s undef) (hu : Upd W w (fun _ => False)) (ho : tbOps[65]? = some o) : ∃ v w', (execOp ρ o).run Tryz.prog w = .ok (.value v) w' ∧ Upd w w' (fun _ => False) ∧ GoodK (tbK E CG CO cc 65) v w' := by
  exact ⟨_, _, fl_load w (op_of ho (x := .load 58 (.tmp 4)) (by kernel_rfl)) ((h1 4 (by decide)).trans T.h4) (range_upd T.rt hu T.lt) Tryz.underlying58 rfl (by kernel_rfl), Upd.refl w _, rfl⟩
theorem tb_66 {E : TbD} {CG CO cc : Nat} {o : Oper} {ρ : Operand → Value} {w : World} (ho : tbOps[66]? = some o) (hd : ∀ e ∈ o.after, Region.binds .any e = true → GoodK (tbK E CG CO cc e.on) (ρ (.tmp (67 + e.on))) w) : ∃ v w', (execOp ρ o).run Tryz.prog w = .ok (.value v) w' ∧ Upd w w' (fun _ => False) ∧ GoodK (tbK E CG CO cc 66) v w' := by
  have e0 : ρ (.tmp 127) = .agg E.c0.cs.toArray := (dep_of (j := 60) (p := 67) (Good := fun i => GoodK (tbK E CG CO cc i)) ho (by kernel_rfl) hd)
  have e1 : ρ (.tmp 128) = .agg E.th.cs.toArray := (dep_of (j := 61) (p := 67) (Good := fun i => GoodK (tbK E CG CO cc i)) ho (by kernel_rfl) hd)
  have e2 : ρ (.tmp 131) = .agg E.c1.cs.toArray := (dep_of (j := 64) (p := 67) (Good := fun i => GoodK (tbK E CG CO cc i)) ho (by kernel_rfl) hd)
  have e3 : ρ (.tmp 132) = .agg E.t.cs.toArray := (dep_of (j := 65) (p := 67) (Good := fun i => GoodK (tbK E CG CO cc i)) ho (by kernel_rfl) hd)
  obtain ⟨ie, hie, hz, hs, -⟩ := info_p Tryz.infoLA
  have k := fl_buildSlice (P := Tryz.prog) (ρ := ρ) (cells := (arC [E.c0, E.th, E.c1, E.t]).toArray) w (op_of ho (x := .buildSlice 42 4 #[(0, Operand.tmp 127), (1, Operand.tmp 128), (2, Operand.tmp 131), (3, Operand.tmp 132)]) (by kernel_rfl)) Tryz.underlying42 hie hz (by rw [hs]; decide) (by rw [hs]; decide) (by
    rw [hs]
    simp only [List.map_toArray, List.map_cons, List.map_nil, e0, e1, e2, e3]
    kernel_rfl)
  exact ⟨_, _, k, (Upd.refl w _).alloc _, _, rfl, Vnew1 w _⟩
theorem tb_67 {E : TbD} {CG CO cc : Nat} {o : Oper} {ρ : Operand → Value} {w : World} (h2 : ∀ c, ρ (.const c) = c) (ho : tbOps[67]? = some o) (hd : ∀ e ∈ o.after, Region.binds .any e = true → GoodK (tbK E CG CO cc e.on) (ρ (.tmp (67 + e.on))) w) : ∃ v w', (execOp ρ o).run Tryz.prog w = .ok (.value v) w' ∧ Upd w w' (fun _ => False) ∧ GoodK (tbK E CG CO cc 67) v w' := by
  obtain ⟨g, hv, hg⟩ : GoodK (.bs [E.c0, E.th, E.c1, E.t]) (ρ (.tmp 133)) w := (dep_of (j := 66) (p := 67) (Good := fun i => GoodK (tbK E CG CO cc i)) ho (by kernel_rfl) hd)
  have hs := h2 (.string ⟨#[67, 72, 79, 79, 83, 69]⟩)
  have k := fl_build (P := Tryz.prog) (ρ := ρ) (cells := #[.string ⟨#[67, 72, 79, 79, 83, 69]⟩, .slice (some ⟨g, 0, none⟩) 4 4]) w (op_of ho (x := .build 60 #[(0, .const (.string ⟨#[67, 72, 79, 79, 83, 69]⟩)), (1, .tmp 133)]) (by kernel_rfl)) (by
    simp only [List.map_toArray, List.map_cons, List.map_nil, hs, hv]
    kernel_rfl)
  exact ⟨_, _, k, Upd.refl w _, g, rfl, hg⟩
theorem tb_68 {E : TbD} {W : World} {arr : Array Value} {TH TB : Nat} {CG CO cc : Nat} (T : TbE E W arr TH TB CG CO cc) {o : Oper} {ρ : Operand → Value} {w : World} (h1 : ∀ s, s < 67 → ρ (.tmp s) = arr.getD s undef) (hu : Upd W w (fun _ => False)) (ho : tbOps[68]? = some o) : ∃ v w', (execOp ρ o).run Tryz.prog w = .ok (.value v) w' ∧ Upd w w' (fun _ => False) ∧ GoodK (tbK E CG CO cc 68) v w' := by
  exact ⟨_, _, fl_load w (op_of ho (x := .load 58 (.tmp 4)) (by kernel_rfl)) ((h1 4 (by decide)).trans T.h4) (range_upd T.rt hu T.lt) Tryz.underlying58 rfl (by kernel_rfl), Upd.refl w _, rfl⟩
theorem tb_69 {E : TbD} {CG CO cc : Nat} {o : Oper} {ρ : Operand → Value} {w : World} (ho : tbOps[69]? = some o) (hd : ∀ e ∈ o.after, Region.binds .any e = true → GoodK (tbK E CG CO cc e.on) (ρ (.tmp (67 + e.on))) w) : ∃ v w', (execOp ρ o).run Tryz.prog w = .ok (.value v) w' ∧ Upd w w' (fun _ => False) ∧ GoodK (tbK E CG CO cc 69) v w' := by
  have e0 : ρ (.tmp 135) = .agg E.t.cs.toArray := (dep_of (j := 68) (p := 67) (Good := fun i => GoodK (tbK E CG CO cc i)) ho (by kernel_rfl) hd)
  obtain ⟨ie, hie, hz, hs, -⟩ := info_p Tryz.infoLA
  have k := fl_buildSlice (P := Tryz.prog) (ρ := ρ) (cells := (arC [E.t]).toArray) w (op_of ho (x := .buildSlice 42 1 #[(0, Operand.tmp 135)]) (by kernel_rfl)) Tryz.underlying42 hie hz (by rw [hs]; decide) (by rw [hs]; decide) (by
    rw [hs]
    simp only [List.map_toArray, List.map_cons, List.map_nil, e0]
    kernel_rfl)
  exact ⟨_, _, k, (Upd.refl w _).alloc _, _, rfl, Vnew1 w _⟩
theorem tb_70 {E : TbD} {CG CO cc : Nat} {o : Oper} {ρ : Operand → Value} {w : World} (h2 : ∀ c, ρ (.const c) = c) (ho : tbOps[70]? = some o) (hd : ∀ e ∈ o.after, Region.binds .any e = true → GoodK (tbK E CG CO cc e.on) (ρ (.tmp (67 + e.on))) w) : ∃ v w', (execOp ρ o).run Tryz.prog w = .ok (.value v) w' ∧ Upd w w' (fun _ => False) ∧ GoodK (tbK E CG CO cc 70) v w' := by
  obtain ⟨g, hv, hg⟩ : GoodK (.bs [E.t]) (ρ (.tmp 136)) w := (dep_of (j := 69) (p := 67) (Good := fun i => GoodK (tbK E CG CO cc i)) ho (by kernel_rfl) hd)
  have hs := h2 (.string ⟨#[82, 79, 87, 83]⟩)
  have k := fl_build (P := Tryz.prog) (ρ := ρ) (cells := #[.string ⟨#[82, 79, 87, 83]⟩, .slice (some ⟨g, 0, none⟩) 1 1]) w (op_of ho (x := .build 60 #[(0, .const (.string ⟨#[82, 79, 87, 83]⟩)), (1, .tmp 136)]) (by kernel_rfl)) (by
    simp only [List.map_toArray, List.map_cons, List.map_nil, hs, hv]
    kernel_rfl)
  exact ⟨_, _, k, Upd.refl w _, g, rfl, hg⟩
theorem tb_71 {E : TbD} {W : World} {arr : Array Value} {TH TB : Nat} {CG CO cc : Nat} (T : TbE E W arr TH TB CG CO cc) {o : Oper} {ρ : Operand → Value} {w : World} (h1 : ∀ s, s < 67 → ρ (.tmp s) = arr.getD s undef) (hu : Upd W w (fun _ => False)) (ho : tbOps[71]? = some o) : ∃ v w', (execOp ρ o).run Tryz.prog w = .ok (.value v) w' ∧ Upd w w' (fun _ => False) ∧ GoodK (tbK E CG CO cc 71) v w' := by
  exact ⟨_, _, fl_load w (op_of ho (x := .load 58 (.tmp 4)) (by kernel_rfl)) ((h1 4 (by decide)).trans T.h4) (range_upd T.rt hu T.lt) Tryz.underlying58 rfl (by kernel_rfl), Upd.refl w _, rfl⟩
theorem tb_72 {E : TbD} {CG CO cc : Nat} {o : Oper} {ρ : Operand → Value} {w : World} (ho : tbOps[72]? = some o) (hd : ∀ e ∈ o.after, Region.binds .any e = true → GoodK (tbK E CG CO cc e.on) (ρ (.tmp (67 + e.on))) w) : ∃ v w', (execOp ρ o).run Tryz.prog w = .ok (.value v) w' ∧ Upd w w' (fun _ => False) ∧ GoodK (tbK E CG CO cc 72) v w' := by
  have e0 : ρ (.tmp 138) = .agg E.t.cs.toArray := (dep_of (j := 71) (p := 67) (Good := fun i => GoodK (tbK E CG CO cc i)) ho (by kernel_rfl) hd)
  obtain ⟨ie, hie, hz, hs, -⟩ := info_p Tryz.infoLA
  have k := fl_buildSlice (P := Tryz.prog) (ρ := ρ) (cells := (arC [E.t]).toArray) w (op_of ho (x := .buildSlice 42 1 #[(0, Operand.tmp 138)]) (by kernel_rfl)) Tryz.underlying42 hie hz (by rw [hs]; decide) (by rw [hs]; decide) (by
    rw [hs]
    simp only [List.map_toArray, List.map_cons, List.map_nil, e0]
    kernel_rfl)
  exact ⟨_, _, k, (Upd.refl w _).alloc _, _, rfl, Vnew1 w _⟩
theorem tb_73 {E : TbD} {CG CO cc : Nat} {o : Oper} {ρ : Operand → Value} {w : World} (h2 : ∀ c, ρ (.const c) = c) (ho : tbOps[73]? = some o) (hd : ∀ e ∈ o.after, Region.binds .any e = true → GoodK (tbK E CG CO cc e.on) (ρ (.tmp (67 + e.on))) w) : ∃ v w', (execOp ρ o).run Tryz.prog w = .ok (.value v) w' ∧ Upd w w' (fun _ => False) ∧ GoodK (tbK E CG CO cc 73) v w' := by
  obtain ⟨g, hv, hg⟩ : GoodK (.bs [E.t]) (ρ (.tmp 139)) w := (dep_of (j := 72) (p := 67) (Good := fun i => GoodK (tbK E CG CO cc i)) ho (by kernel_rfl) hd)
  have hs := h2 (.string ⟨#[67, 79, 76, 85, 77, 78, 83]⟩)
  have k := fl_build (P := Tryz.prog) (ρ := ρ) (cells := #[.string ⟨#[67, 79, 76, 85, 77, 78, 83]⟩, .slice (some ⟨g, 0, none⟩) 1 1]) w (op_of ho (x := .build 60 #[(0, .const (.string ⟨#[67, 79, 76, 85, 77, 78, 83]⟩)), (1, .tmp 139)]) (by kernel_rfl)) (by
    simp only [List.map_toArray, List.map_cons, List.map_nil, hs, hv]
    kernel_rfl)
  exact ⟨_, _, k, Upd.refl w _, g, rfl, hg⟩
theorem tb_74 {E : TbD} {CG CO cc : Nat} {o : Oper} {ρ : Operand → Value} {w : World} (ho : tbOps[74]? = some o) (hd : ∀ e ∈ o.after, Region.binds .any e = true → GoodK (tbK E CG CO cc e.on) (ρ (.tmp (67 + e.on))) w) : ∃ v w', (execOp ρ o).run Tryz.prog w = .ok (.value v) w' ∧ Upd w w' (fun _ => False) ∧ GoodK (tbK E CG CO cc 74) v w' := by
  obtain ⟨g0, v0, b0⟩ : GoodK (.nm (.string ⟨#[77, 65, 84, 67, 72]⟩) [E.th, E.t]) (ρ (.tmp 70)) w := (dep_of (j := 3) (p := 67) (Good := fun i => GoodK (tbK E CG CO cc i)) ho (by kernel_rfl) hd)
  obtain ⟨g1, v1, b1⟩ : GoodK (.nm (.string ⟨#[77, 65, 84, 67, 72]⟩) [E.th, E.t, E.c0]) (ρ (.tmp 77)) w := (dep_of (j := 10) (p := 67) (Good := fun i => GoodK (tbK E CG CO cc i)) ho (by kernel_rfl) hd)
  obtain ⟨g2, v2, b2⟩ : GoodK (.nm (.string ⟨#[73, 78, 68, 69, 88]⟩) [E.t, E.c0]) (ρ (.tmp 83)) w := (dep_of (j := 16) (p := 67) (Good := fun i => GoodK (tbK E CG CO cc i)) ho (by kernel_rfl) hd)
  obtain ⟨g3, v3, b3⟩ : GoodK (.nm (.string ⟨#[73, 78, 68, 69, 88]⟩) [E.t, E.c0, E.c1]) (ρ (.tmp 92)) w := (dep_of (j := 25) (p := 67) (Good := fun i => GoodK (tbK E CG CO cc i)) ho (by kernel_rfl) hd)
  obtain ⟨g4, v4, b4⟩ : GoodK (.nm (.string ⟨#[86, 76, 79, 79, 75, 85, 80]⟩) [E.th, E.t, E.c0]) (ρ (.tmp 99)) w := (dep_of (j := 32) (p := 67) (Good := fun i => GoodK (tbK E CG CO cc i)) ho (by kernel_rfl) hd)
  obtain ⟨g5, v5, b5⟩ : GoodK (.nm (.string ⟨#[86, 76, 79, 79, 75, 85, 80]⟩) [E.th, E.t, E.c0, E.c1]) (ρ (.tmp 109)) w := (dep_of (j := 42) (p := 67) (Good := fun i => GoodK (tbK E CG CO cc i)) ho (by kernel_rfl) hd)
  obtain ⟨g6, v6, b6⟩ : GoodK (.nm (.string ⟨#[72, 76, 79, 79, 75, 85, 80]⟩) [E.th, E.t, E.c0, E.c2]) (ρ (.tmp 119)) w := (dep_of (j := 52) (p := 67) (Good := fun i => GoodK (tbK E CG CO cc i)) ho (by kernel_rfl) hd)
  obtain ⟨g7, v7, b7⟩ : GoodK (.nm (.string ⟨#[76, 79, 79, 75, 85, 80]⟩) [E.th, E.t, E.t]) (ρ (.tmp 124)) w := (dep_of (j := 57) (p := 67) (Good := fun i => GoodK (tbK E CG CO cc i)) ho (by kernel_rfl) hd)
  obtain ⟨g8, v8, b8⟩ : GoodK (.nm (.string ⟨#[67, 72, 79, 79, 83, 69]⟩) [E.c0, E.th, E.c1, E.t]) (ρ (.tmp 134)) w := (dep_of (j := 67) (p := 67) (Good := fun i => GoodK (tbK E CG CO cc i)) ho (by kernel_rfl) hd)
  obtain ⟨g9, v9, b9⟩ : GoodK (.nm (.string ⟨#[82, 79, 87, 83]⟩) [E.t]) (ρ (.tmp 137)) w := (dep_of (j := 70) (p := 67) (Good := fun i => GoodK (tbK E CG CO cc i)) ho (by kernel_rfl) hd)
  obtain ⟨g10, v10, b10⟩ : GoodK (.nm (.string ⟨#[67, 79, 76, 85, 77, 78, 83]⟩) [E.t]) (ρ (.tmp 140)) w := (dep_of (j := 73) (p := 67) (Good := fun i => GoodK (tbK E CG CO cc i)) ho (by kernel_rfl) hd)
  obtain ⟨ie, hie, hz, hs, -⟩ := info_p Tryz.infoTC
  have k := fl_buildSlice (P := Tryz.prog) (ρ := ρ) (cells := (finC E.ps (fun i => [g0, g1, g2, g3, g4, g5, g6, g7, g8, g9, g10].getD i 0)).toArray) w (op_of ho (x := .buildSlice 61 11 #[(0, Operand.tmp 70), (1, Operand.tmp 77), (2, Operand.tmp 83), (3, Operand.tmp 92), (4, Operand.tmp 99), (5, Operand.tmp 109), (6, Operand.tmp 119), (7, Operand.tmp 124), (8, Operand.tmp 134), (9, Operand.tmp 137), (10, Operand.tmp 140)]) (by kernel_rfl)) Tryz.underlying61 hie hz (by rw [hs]; decide) (by rw [hs]; decide) (by
    rw [hs]
    simp only [List.map_toArray, List.map_cons, List.map_nil, v0, v1, v2, v3, v4, v5, v6, v7, v8, v9, v10]
    kernel_rfl)
  refine ⟨_, _, k, (Upd.refl w _).alloc _, _, fun i => [g0, g1, g2, g3, g4, g5, g6, g7, g8, g9, g10].getD i 0, rfl, Vnew1 w _, fun i hi => ?_⟩
  have hi' : i < 11 := hi
  have : i = 0 ∨ i = 1 ∨ i = 2 ∨ i = 3 ∨ i = 4 ∨ i = 5 ∨ i = 6 ∨ i = 7 ∨ i = 8 ∨ i = 9 ∨ i = 10 := by omega
  rcases this with rfl | rfl | rfl | rfl | rfl | rfl | rfl | rfl | rfl | rfl | rfl
  · exact block_alloc b0 _
  · exact block_alloc b1 _
  · exact block_alloc b2 _
  · exact block_alloc b3 _
  · exact block_alloc b4 _
  · exact block_alloc b5 _
  · exact block_alloc b6 _
  · exact block_alloc b7 _
  · exact block_alloc b8 _
  · exact block_alloc b9 _
  · exact block_alloc b10 _
theorem tb_75 {E : TbD} {CG CO cc : Nat} {o : Oper} {ρ : Operand → Value} {w : World} (ho : tbOps[75]? = some o) (hd : ∀ e ∈ o.after, Region.binds .any e = true → GoodK (tbK E CG CO cc e.on) (ρ (.tmp (67 + e.on))) w) : ∃ v w', (execOp ρ o).run Tryz.prog w = .ok (.value v) w' ∧ Upd w w' (fun _ => False) ∧ GoodK (tbK E CG CO cc 75) v w' := by
  obtain ⟨g, gs, hv, -⟩ : GoodK (.fin E.ps) (ρ (.tmp 141)) w := (dep_of (j := 74) (p := 67) (Good := fun i => GoodK (tbK E CG CO cc i)) ho (by kernel_rfl) hd)
  exact ⟨_, _, fl_len w (op_of ho (by kernel_rfl)) hv Tryz.underlying61, Upd.refl w _, rfl⟩
theorem tb_76 {E : TbD} {CG CO cc : Nat} {o : Oper} {ρ : Operand → Value} {w : World} (h2 : ∀ c, ρ (.const c) = c) (ho : tbOps[76]? = some o) : ∃ v w', (execOp ρ o).run Tryz.prog w = .ok (.value v) w' ∧ Upd w w' (fun _ => False) ∧ GoodK (tbK E CG CO cc 76) v w' := by
  exact ⟨_, _, fl_move w (op_of ho (x := .move (.const (.int .i64 0))) (by kernel_rfl)) (h2 _), Upd.refl w _, rfl⟩
theorem tb13 {E : TbD} {W : World} {arr : Array Value} {ds : List Deferred} {TH TB CG CO cc : Nat} {Q : Exit → Act → World → Prop} (T : TbE E W arr TH TB CG CO cc) (hsz : 144 ≤ arr.size)
    (hend : ∀ (mid : List Value) (w : World), mid.length = 77 → Upd W w (fun _ => False) → (∀ i, i < 77 → GoodK (tbK E CG CO cc i) (mid.getD i undef) w) → Q .normal ⟨(arr.toList.take 67 ++ mid ++ arr.toList.drop 144).toArray, ds⟩ w) :
    (Code.region 13 tbOps true).wp Tryz.prog Q ⟨arr, ds⟩ W := by
  have hall : ∀ i o, tbOps[i]? = some o → (o.dst = some (67 + i) ∧ o.guard = none) ∧ ∀ e ∈ o.after, Region.binds .any e = true → e.on < i := by
    intro i o ho
    have hi : i < 77 := by rw [← tb_size]; exact (Array.getElem?_eq_some_iff.1 ho).1
    have k := List.all_eq_true.1 tb_all i (List.mem_range.2 hi)
    rw [ho] at k
    simp only [Bool.and_eq_true] at k
    obtain ⟨⟨k1, k2⟩, k3⟩ := k
    refine ⟨⟨by simpa using k1, by simpa using k2⟩, fun e he hb => ?_⟩
    have := List.all_eq_true.1 k3 e (by simpa using he)
    simpa [hb] using this
  refine region_flow2 arr 67 ds (by kernel_rfl) (fun i => GoodK (tbK E CG CO cc i)) (by rw [tb_size]; omega) (fun i o ho => (hall i o ho).1) (fun i o ho => (hall i o ho).2) (fun i v w w' h u => h.upd u) ?_ ?_
  · intro i o ho ρ w h1 h2 hd hu
    have hi : i < 77 := by rw [← tb_size]; exact (Array.getElem?_eq_some_iff.1 ho).1
    match i, hi, ho with
    | 0, _, ho => exact tb_0 T h1 hu ho
    | 1, _, ho => exact tb_1 T h1 hu ho
    | 2, _, ho => exact tb_2 ho hd
    | 3, _, ho => exact tb_3 h2 ho hd
    | 4, _, ho => exact tb_4 T h1 hu ho
    | 5, _, ho => exact tb_5 T h1 hu ho
    | 6, _, ho => exact tb_6 T h1 ho
    | 7, _, ho => exact tb_7 h2 ho hd
    | 8, _, ho => exact tb_8 T hu ho hd
    | 9, _, ho => exact tb_9 ho hd
    | 10, _, ho => exact tb_10 h2 ho hd
    | 11, _, ho => exact tb_11 T h1 hu ho
    | 12, _, ho => exact tb_12 T h1 ho
    | 13, _, ho => exact tb_13 h2 ho hd
    | 14, _, ho => exact tb_14 T hu ho hd
    | 15, _, ho => exact tb_15 ho hd
    | 16, _, ho => exact tb_16 h2 ho hd
    | 17, _, ho => exact tb_17 T h1 hu ho
    | 18, _, ho => exact tb_18 T h1 ho
    | 19, _, ho => exact tb_19 h2 ho hd
    | 20, _, ho => exact tb_20 T hu ho hd
    | 21, _, ho => exact tb_21 T h1 ho
    | 22, _, ho => exact tb_22 h2 ho hd
    | 23, _, ho => exact tb_23 T hu ho hd
    | 24, _, ho => exact tb_24 ho hd
    | 25, _, ho => exact tb_25 h2 ho hd
    | 26, _, ho => exact tb_26 T h1 hu ho
    | 27, _, ho => exact tb_27 T h1 hu ho
    | 28, _, ho => exact tb_28 T h1 ho
    | 29, _, ho => exact tb_29 h2 ho hd
    | 30, _, ho => exact tb_30 T hu ho hd
    | 31, _, ho => exact tb_31 ho hd
    | 32, _, ho => exact tb_32 h2 ho hd
    | 33, _, ho => exact tb_33 T h1 hu ho
    | 34, _, ho => exact tb_34 T h1 hu ho
    | 35, _, ho => exact tb_35 T h1 ho
    | 36, _, ho => exact tb_36 h2 ho hd
    | 37, _, ho => exact tb_37 T hu ho hd
    | 38, _, ho => exact tb_38 T h1 ho
    | 39, _, ho => exact tb_39 h2 ho hd
    | 40, _, ho => exact tb_40 T hu ho hd
    | 41, _, ho => exact tb_41 ho hd
    | 42, _, ho => exact tb_42 h2 ho hd
    | 43, _, ho => exact tb_43 T h1 hu ho
    | 44, _, ho => exact tb_44 T h1 hu ho
    | 45, _, ho => exact tb_45 T h1 ho
    | 46, _, ho => exact tb_46 h2 ho hd
    | 47, _, ho => exact tb_47 T hu ho hd
    | 48, _, ho => exact tb_48 T h1 ho
    | 49, _, ho => exact tb_49 h2 ho hd
    | 50, _, ho => exact tb_50 T hu ho hd
    | 51, _, ho => exact tb_51 ho hd
    | 52, _, ho => exact tb_52 h2 ho hd
    | 53, _, ho => exact tb_53 T h1 hu ho
    | 54, _, ho => exact tb_54 T h1 hu ho
    | 55, _, ho => exact tb_55 T h1 hu ho
    | 56, _, ho => exact tb_56 ho hd
    | 57, _, ho => exact tb_57 h2 ho hd
    | 58, _, ho => exact tb_58 T h1 ho
    | 59, _, ho => exact tb_59 h2 ho hd
    | 60, _, ho => exact tb_60 T hu ho hd
    | 61, _, ho => exact tb_61 T h1 hu ho
    | 62, _, ho => exact tb_62 T h1 ho
    | 63, _, ho => exact tb_63 h2 ho hd
    | 64, _, ho => exact tb_64 T hu ho hd
    | 65, _, ho => exact tb_65 T h1 hu ho
    | 66, _, ho => exact tb_66 ho hd
    | 67, _, ho => exact tb_67 h2 ho hd
    | 68, _, ho => exact tb_68 T h1 hu ho
    | 69, _, ho => exact tb_69 ho hd
    | 70, _, ho => exact tb_70 h2 ho hd
    | 71, _, ho => exact tb_71 T h1 hu ho
    | 72, _, ho => exact tb_72 ho hd
    | 73, _, ho => exact tb_73 h2 ho hd
    | 74, _, ho => exact tb_74 ho hd
    | 75, _, ho => exact tb_75 ho hd
    | 76, _, ho => exact tb_76 h2 ho
    | i + 77, hi, _ => omega
  · intro mid w hm hu hg
    rw [tb_size] at hm hg
    have k := hend mid w hm hu hg
    rw [tb_size]
    exact k
end Go.Proofs.YtdjpkkgcoainhaaGreatDoor
