/- The walk of the law's wakes. -/
import Derived.Test.YtcdimledeomahaaWebO
set_option maxRecDepth 100000
namespace Go.Proofs.Ytcdimledeomahaa
open Go.RowKit Go.Lat

def wkA : Lk := ⟨[65], [83], 0, 0⟩
def wkB : Lk := ⟨[66], [83], 0, 0⟩
def wkP : Pc := ⟨[83], 0, 0⟩
def wkE : Ed := ⟨[83], 0, 0, [wkA]⟩
def wkF : List UInt8 → Option (Int × List Ed) := fun t => if t = [66] then some (1, [wkE]) else (fun _ => none) t
def wkO : List On := [⟨wkP, [wkP], [wkB]⟩]
theorem wk_ok (p : Pc) : (Way.mk wkF wkO [65] p).Ok := by
  have ha : wkA.Ok := ⟨by decide, by decide, by decide, by decide⟩
  have hb : wkB.Ok := ⟨by decide, by decide, by decide, by decide⟩
  refine ⟨show ([65] : List UInt8).length ≤ maxLen by decide, fun t ver es h => ?_, show wkO.length ≤ 1000 by decide, fun o ho => ?_⟩
  · simp only [wkF] at h
    split at h
    · cases h
      refine ⟨by simp, fun e he => ?_⟩
      simp at he
      subst he
      refine ⟨by simp [wkE], fun x hx => ?_⟩
      simp [wkE] at hx
      subst hx
      exact ha
    · cases h
  · simp [wkO] at ho
    subst ho
    refine ⟨by simp, by simp, fun x hx => ?_⟩
    simp at hx
    subst hx
    exact hb
theorem wk_goes : ∀ o ∈ wkO, (Way.mk wkF wkO [65] o.p).goes (5 + 1) (sees [] [] o.links) = some ((fun _ => true) o) := by
  intro o ho
  simp [wkO] at ho
  subst ho
  rfl
theorem wk_cyc : cyc (fun _ => true) [] wkO = [wkP] := rfl

theorem made_ed (W : World) (g : Nat) (h : Rw W 40 4 (.slice (some ⟨g, 0, none⟩) 1 1) 1 (lkCells [wkA])) :
    EdsAt (W.alloc (.cells #[encStr [83], .int .i64 0, .int .i64 0, .slice (some ⟨g, 0, none⟩) 1 1] 83)) (fun _ => True) (.slice (some ⟨W.heap.size, 0, none⟩) 1 1) [wkE] := by
  refine ⟨fun _ _ => trivial, [encStr [83], .int .i64 0, .int .i64 0, .slice (some ⟨g, 0, none⟩) 1 1], Rw.made W _ _ 4 1 rfl, ?_, fun i e he => ?_⟩
  · intro u hu
    simp at hu
    rcases hu with rfl | rfl | rfl | rfl <;> rfl
  · cases i with
    | succ i => simp at he
    | zero =>
      simp at he
      subst he
      exact ⟨_, ⟨rfl, rfl, rfl, rfl⟩, h.alloc _, fun _ _ => trivial⟩

theorem made_on (W : World) (m g1 g2 : Nat) (h1 : Rw W 32 3 (.slice (some ⟨g1, 0, none⟩) 1 1) 1 (pcCells [wkP])) (h2 : Rw W 40 4 (.slice (some ⟨g2, 0, none⟩) 1 1) 1 (lkCells [wkB])) (hg : g2 < m) :
    OnsAt (W.alloc (.cells #[encStr [83], .int .i64 0, .int .i64 0, .slice (some ⟨g1, 0, none⟩) 1 1, .slice (some ⟨g2, 0, none⟩) 1 1] 38)) (fun k => k < m) (.slice (some ⟨W.heap.size, 0, none⟩) 1 1) wkO := by
  refine ⟨[encStr [83], .int .i64 0, .int .i64 0, .slice (some ⟨g1, 0, none⟩) 1 1, .slice (some ⟨g2, 0, none⟩) 1 1], Rw.made W _ _ 5 1 rfl, fun i o ho => ?_⟩
  cases i with
  | succ i => simp [wkO] at ho
  | zero =>
    simp [wkO] at ho
    subst ho
    exact ⟨_, _, ⟨rfl, rfl, rfl, rfl, rfl⟩, h1.alloc _, h2.alloc _, fun k hk => by have := Option.some.inj hk; simp at this; omega⟩

set_option maxHeartbeats 3200000 in
theorem wakes_any (w : World) : Calls Try.prog 12 #[] w fun e w' => e = .returned (.bool true) ∧ Upd w w' (fun _ => False) := by
  go_enter Try.func12, Try.ntmps12
  go_wp2_with fail
  refine Calls.mono (New_any w) ?_
  rintro e w1 ⟨rfl, a1, u1⟩
  obtain ⟨V3, hV3⟩ : ∃ V, ((w1.alloc (.cells #[encStr [83], .int .i64 0, .int .i64 0] 32)).alloc (.cells #[encStr [65], encStr [83], .int .i64 0, .int .i64 0] 40)).alloc (.cells #[encStr [66], encStr [83], .int .i64 0, .int .i64 0] 40) = V := ⟨_, rfl⟩
  have zV3 : V3.heap.size = w1.heap.size + 1 + 1 + 1 := by rw [← hV3]; simp
  have uV3 : Upd w1 V3 (fun _ => False) := hV3 ▸ (((Upd.refl w1 _).alloc _).alloc _).alloc _
  have bP : V3.heap[w1.heap.size]? = some (.cells #[encStr [83], .int .i64 0, .int .i64 0] 32 (0, 0)) := hV3 ▸ new3b w1 _ _ _
  have bB : V3.heap[w1.heap.size + 1 + 1]? = some (.cells #[encStr [66], encStr [83], .int .i64 0, .int .i64 0] 40 (0, 0)) := hV3 ▸ new3 w1 _ _ _
  have r1 : Rw (V3.alloc (.cells #[encStr [65], encStr [83], .int .i64 0, .int .i64 0] 40)) 40 4 (.slice (some ⟨w1.heap.size + 1 + 1 + 1, 0, none⟩) 1 1) 1 (lkCells [wkA]) := by
    have h := Rw.made V3 #[encStr [65], encStr [83], .int .i64 0, .int .i64 0] 40 4 1 rfl
    rw [zV3] at h
    exact h
  have ed1 := made_ed _ _ r1
  have zV4 : (V3.alloc (.cells #[encStr [65], encStr [83], .int .i64 0, .int .i64 0] 40)).heap.size = w1.heap.size + 1 + 1 + 1 + 1 := by simp [zV3]
  rw [zV4] at ed1
  obtain ⟨W2, hW2⟩ : ∃ V, (V3.alloc (.cells #[encStr [65], encStr [83], .int .i64 0, .int .i64 0] 40)).alloc (.cells #[encStr [83], .int .i64 0, .int .i64 0, .slice (some ⟨w1.heap.size + 1 + 1 + 1, 0, none⟩) 1 1] 83) = V := ⟨_, rfl⟩
  have uW2 : Upd V3 W2 (fun _ => False) := hW2 ▸ ((Upd.refl V3 _).alloc _).alloc _
  rw [hW2] at ed1
  have LA := Learn_accept W2 (w.heap.size + 1) w.heap.size 0 (.map []) (a1.upd (uV3.then uW2 (fun _ _ => id)) id id) (by omega) [66] (by decide) 1 0 (fun _ => True) _ [wkE] ed1 (by simp) (by simp [wkE]) none 0 0 (Go.Maps.atKey_of_not_has rfl _) false rfl (by simp)
  have l0 := lt_at a1.c
  have HP := hide (uW2.get bP id)
  have HB := hide (uW2.get bB id)
  have HU := hide (u1.then (uV3.then uW2 (fun _ _ => id)) (fun _ _ => id))
  have HV3 := hide hV3
  have HW2 := hide hW2
  clear bP bB uV3 uW2 hV3 hW2 r1 ed1 zV3 zV4 u1
  go_wp2_with fail
  have HVV : Hid (((((w1.alloc (.cells #[encStr [83], .int .i64 0, .int .i64 0] 32)).alloc (.cells #[encStr [65], encStr [83], .int .i64 0, .int .i64 0] 40)).alloc (.cells #[encStr [66], encStr [83], .int .i64 0, .int .i64 0] 40)).alloc (.cells #[encStr [65], encStr [83], .int .i64 0, .int .i64 0] 40)).alloc (.cells #[encStr [83], .int .i64 0, .int .i64 0, .slice (some ⟨w1.heap.size + 1 + 1 + 1, 0, none⟩) 1 1] 83) = W2) := hide (by rw [HV3.out]; exact HW2.out)
  rw [HVV.out]
  refine Calls.mono LA ?_
  rintro e w3 ⟨rfl, ka, kc, a3, k3, u3⟩
  have kn3 := KnV.put (World.ownsMap.isMap a1.m) (KnV.empty w3 (fun k => W2.heap.size ≤ k)) [66] 1 [wkE] ka kc k3
  have hP3 := u3.get HP.out (show ¬ (w1.heap.size = w.heap.size) by omega)
  have hB3 := u3.get HB.out (show ¬ (w1.heap.size + 1 + 1 = w.heap.size) by omega)
  obtain ⟨p0, p1, p2⟩ := cells3 hP3
  obtain ⟨q0, q1, q2, q3⟩ := cells4 hB3
  have lP := lt_at hP3
  have lB := lt_at hB3
  have U3 := hide (HU.out.then u3 (fun i hi e => by omega))
  have HP3 := hide hP3
  have HA3 := hide a3
  have HK3 := hide kn3
  clear hP3 hB3 a3 kn3 u3 LA k3
  go_wp2_with fail
  obtain ⟨V5, hV5⟩ : ∃ V, (w3.alloc (.cells #[encStr [83], .int .i64 0, .int .i64 0] 32)).alloc (.cells #[encStr [66], encStr [83], .int .i64 0, .int .i64 0] 40) = V := ⟨_, rfl⟩
  have zV5 : V5.heap.size = w3.heap.size + 1 + 1 := by rw [← hV5]; simp
  have uV5 : Upd w3 V5 (fun _ => False) := hV5 ▸ ((Upd.refl w3 _).alloc _).alloc _
  have r5 : Rw V5 32 3 (.slice (some ⟨w3.heap.size, 0, none⟩) 1 1) 1 (pcCells [wkP]) := hV5 ▸ Rw.alloc (Rw.made w3 #[encStr [83], .int .i64 0, .int .i64 0] 32 3 1 rfl) _
  have r6 : Rw V5 40 4 (.slice (some ⟨w3.heap.size + 1, 0, none⟩) 1 1) 1 (lkCells [wkB]) := by
    have h := Rw.made (w3.alloc (.cells #[encStr [83], .int .i64 0, .int .i64 0] 32)) #[encStr [66], encStr [83], .int .i64 0, .int .i64 0] 40 4 1 rfl
    rw [show (w3.alloc (.cells #[encStr [83], .int .i64 0, .int .i64 0] 32)).heap.size = w3.heap.size + 1 by simp, hV5] at h
    exact h
  have on5 := made_on V5 (w3.heap.size + 1 + 1) _ _ r5 r6 (by omega)
  rw [zV5] at on5
  obtain ⟨W6, hW6⟩ : ∃ V, V5.alloc (.cells #[encStr [83], .int .i64 0, .int .i64 0, .slice (some ⟨w3.heap.size, 0, none⟩) 1 1, .slice (some ⟨w3.heap.size + 1, 0, none⟩) 1 1] 38) = V := ⟨_, rfl⟩
  have uW6 : Upd V5 W6 (fun _ => False) := hW6 ▸ (Upd.refl V5 _).alloc _
  rw [hW6] at on5
  have u36 := uV5.then uW6 (fun _ _ => id)
  have s36 : w3.heap.size + 1 + 1 ≤ W6.heap.size := by have := uW6.size; omega
  have CY := Cycles_any W6 wkF wkO [65] wk_ok (w.heap.size + 1) w.heap.size _ _ (fun k => W2.heap.size ≤ k) (fun k => k < w3.heap.size + 1 + 1) (fun k hk => Nat.lt_of_lt_of_le hk s36) _ (HA3.out.upd u36 id id) (HK3.out.upd u36 (fun _ _ => id)) on5 5 (by omega) (fun _ => true) wk_goes
  simp only [wk_cyc, List.length_singleton] at CY
  rw [hV5, hW6]
  have HU36 := hide u36
  clear hV5 hW6 uV5 uW6 zV5 r5 r6 on5 u36
  refine Calls.mono CY ?_
  rintro e w7 ⟨ca, cc, rfl, rc7, u7⟩
  have U7 := (U3.out.then HU36.out (fun _ _ => id)).then u7 (fun _ _ => id)
  have u37 := HU36.out.then u7 (fun _ _ => id)
  have hP7 := u37.get HP3.out id
  obtain ⟨x0, x1, x2⟩ := cells3 hP7
  have lP7 := lt_at hP7
  obtain ⟨kh, ka2, kc2, kv, -⟩ := HK3.out.yes [66] 1 [wkE] rfl
  obtain ⟨g, off, rfl, hg7, y0, y1, y2⟩ := pc_at (show Rw w7 32 3 (.slice ca 1 cc) 1 (pcCells [wkP]) from rc7) 0 wkP rfl (by omega)
  simp only [Nat.zero_mul, Nat.add_zero, wkP] at y0 y1 y2
  have LR : ∀ V : World, Upd w7 V (fun _ => False) → Calls Try.prog 9 #[.pointer (some ⟨w.heap.size + 1, 0, none⟩), .string ⟨#[66]⟩, .int .i64 1, .slice none 0 0] V fun e w' => e = .returned (.bool false) ∧ Upd w7 w' (fun _ => False) := by
    intro V uV
    refine Calls.mono (Learn_refuse V _ _ _ _ (HA3.out.upd (u37.then uV (fun _ _ => id)) id id) [66] (by decide) 1 1 (.slice none 0 0) _ _ _ kv kh (by omega)) ?_
    rintro e w' ⟨rfl, u⟩
    exact ⟨rfl, uV.then u (fun _ _ => id)⟩
  have HU7 := hide U7
  have UA : Upd w7 w7.drew (fun _ => False) := (Upd.refl w7 _).drew
  clear U7 u37 hP7 kh kv u7 CY rc7 p0 p1 p2 q0 q1 q2 q3
  go_wp2_with fail
  go_region_held3 (fun w' => w'.cell? ⟨g, off, none⟩ = some (encStr [83]) ∧ w'.cell? ⟨g, off + 1, none⟩ = some (.int .i64 0) ∧ w'.cell? ⟨g, off + 2, none⟩ = some (.int .i64 0) ∧ w'.cell? ⟨w1.heap.size, 0, none⟩ = some (encStr [83]) ∧ w'.cell? ⟨w1.heap.size, 1, none⟩ = some (.int .i64 0) ∧ w'.cell? ⟨w1.heap.size, 2, none⟩ = some (.int .i64 0))
    (first | (go_split_ands; exact ⟨(u8.cell g off hg7 id).trans y0, (u8.cell g (off + 1) hg7 id).trans y1, (u8.cell g (off + 2) hg7 id).trans y2, (u8.cell w1.heap.size 0 lP7 id).trans x0, (u8.cell w1.heap.size 1 lP7 id).trans x1, (u8.cell w1.heap.size 2 lP7 id).trans x2⟩) | go_keep)
    ((go_at_call 9; with_reducible refine Calls.mono (LR w7.drew UA) ?_; rintro e w8 ⟨rfl, u8⟩))
  all_goals go_wp2_with fail
  go_ret
  exact ⟨rfl, HU7.out.then u8 (fun _ _ => id)⟩
end Go.Proofs.Ytcdimledeomahaa
