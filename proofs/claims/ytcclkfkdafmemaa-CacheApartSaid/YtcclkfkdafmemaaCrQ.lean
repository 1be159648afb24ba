/- A map of entries as a whole. -/
import Derived.Test.YtcclkfkdafmemaaCrQ0
set_option maxRecDepth 100000
namespace Go.Proofs.Ytcclkfkdafmemaa
open Go.RowKit Go.Lat

theorem takeD2 {P : Program} {ops : Array Oper} {Q : Exit → Act → World → Prop} {md : Region.Mode} {S : World → Prop} {i : Nat} {oi : Oper} {d : Option Tmp} {v : Value} {fuel : Nat} {listed : Array Bool} {a : Act} {w : World} (hi : ops[i]? = some oi) (hd : oi.dst = d)
    (hs : Region.noSelect ops = true) (hf : Region.free md ops listed i = true) (hr : (Region.ready md ops listed).contains i = true)
    (hQ : ∀ c a w, Q (.panic c) (a.put d v) w → Q (.panic c) a w) (hy : YieldsIf P ops S oi v a) (hS : S w)
    (h : wpAnyH P md ops Q S fuel (listed.setIfInBounds i true) (a.put d v) w) : wpAnyH P md ops Q S (fuel + 1) listed a w := by
  subst hd
  exact wpAnyH_take hi hs hf hr hQ hy hS h
/-- A map of entries. -/
structure Mp (w : World) (bm n : Nat) (D : DataW Value) (M : Lk → Option En) : Prop where
  m : w.ownsMap Try.prog 30 heldElem bm n D
  has : ∀ x : Lk, x.ok → Maps.has D (lkLit x) = (M x).isSome
  val : ∀ x : Lk, x.ok → D.atKey (lkLit x) (.held enZero.val) = .held ((M x).getD enZero).val
theorem Mp.upd {w w' : World} {bm n : Nat} {D : DataW Value} {M : Lk → Option En} {S : Nat → Prop} (h : Mp w bm n D M) (u : Upd w w' S) (h2 : ¬ S bm) : Mp w' bm n D M :=
  ⟨own_upd h.m u h2, h.has, h.val⟩
theorem Mp.made (w : World) : Mp (w.alloc (.map #[] 0)) w.heap.size 0 (.map []) (fun _ => none) :=
  ⟨World.ownsMap_made w Try.prog 30 heldElem, fun _ _ => rfl, fun _ _ => atKey_none _ _⟩
theorem Mp.put {w w' : World} {bm n m : Nat} {D : DataW Value} {M : Lk → Option En} (h : Mp w bm n D M) {p : Lk} (hp : p.ok) (x : En) (hm : w'.ownsMap Try.prog 30 heldElem bm m (D.put (lkLit p) (.held x.val))) :
    Mp w' bm m (D.put (lkLit p) (.held x.val)) (setF M p (some x)) := by
  have hD := h.m.isMap
  refine ⟨hm, fun q hq => ?_, fun q hq => ?_⟩
  · by_cases e : q = p
    · subst e
      rw [setF_same, Go.Maps.has_put_same hD (isKey_lk _)]
      rfl
    · rw [setF_other _ _ _ e, Go.Maps.has_put_other (fun z => e (lkLit_inj hq hp z)), h.has q hq]
  · by_cases e : q = p
    · subst e
      rw [setF_same, Go.Maps.atKey_put_same hD (isKey_lk _)]
      rfl
    · rw [setF_other _ _ _ e, Go.Maps.atKey_put_other (fun z => e (lkLit_inj hq hp z)), h.val q hq]
theorem Mp.imp {w : World} {bm n : Nat} {D : DataW Value} {M M2 : Lk → Option En} (h : Mp w bm n D M) (e : ∀ x, x.ok → M x = M2 x) : Mp w bm n D M2 :=
  ⟨h.m, fun x hx => by rw [← e x hx]; exact h.has x hx, fun x hx => by rw [← e x hx]; exact h.val x hx⟩

end Go.Proofs.Ytcclkfkdafmemaa
