/- The law FlowWindow walked. -/
import Derived.Test.YtfbmhfpffciojaaFlowWk
set_option maxRecDepth 100000
namespace Go.Proofs.Ytfbmhfpffciojaa
open Go.RowKit Go.Lat

/-- One call as plain data. -/
structure ActD where
  dov : Int
  seq : Int
  body : ByteArray

def ActsAt (w : World) (v : Value) (n : Nat) (A : Nat → ActD) : Prop :=
  ∃ a cap, v = .slice a n cap ∧ n ≤ cap ∧ cap ≤ 9223372036854775807 ∧ (0 < n → ∃ b off, a = some ⟨b, off, none⟩ ∧ b < w.heap.size ∧ ∀ i, i < n →
    w.cell? ⟨b, off + i * 3, none⟩ = some (.int .i64 (A i).dov) ∧ w.cell? ⟨b, off + i * 3 + 1, none⟩ = some (.int .i64 (A i).seq) ∧ w.cell? ⟨b, off + i * 3 + 2, none⟩ = some (.string (A i).body))

theorem frCells_get (l : List Fr) (j : Nat) (x : Fr) (h : l[j]? = some x) : (frCells l)[j * 3]? = some (.bool x.ack) ∧ (frCells l)[j * 3 + 1]? = some (.int .i64 x.seq) ∧ (frCells l)[j * 3 + 2]? = some (.string x.body) := by
  induction l generalizing j with
  | nil => simp at h
  | cons y l ih =>
    cases j with
    | zero => simp at h; subst h; simp [frCells, Fr.cells]
    | succ j =>
      have := ih j (by simpa using h)
      have e : ∀ t, (frCells (y :: l))[(j + 1) * 3 + t]? = (frCells l)[j * 3 + t]? := by
        intro t
        have e1 : (j + 1) * 3 + t = (j * 3 + t) + 3 := by omega
        rw [e1]
        simp [frCells, Fr.cells]
      exact ⟨(e 0).trans this.1, by rw [e 1]; exact this.2.1, by rw [e 2]; exact this.2.2⟩

/-- The cells of frame j of a slice of frames. -/
theorem FrsAt.at {w : World} {sa : Option Addr} {c : Nat} {l : List Fr} (h : FrsAt w (.slice sa l.length c) l) (j : Nat) (x : Fr) (hx : l[j]? = some x) :
    ∃ g off, sa = some ⟨g, off, none⟩ ∧ g < w.heap.size ∧ w.cell? ⟨g, off + j * 3, none⟩ = some (.bool x.ack) ∧ w.cell? ⟨g, off + j * 3 + 1, none⟩ = some (.int .i64 x.seq) ∧ w.cell? ⟨g, off + j * 3 + 2, none⟩ = some (.string x.body) := by
  have hj : j < l.length := (List.getElem?_eq_some_iff.1 hx).1
  obtain ⟨g, off, cap, hv, hg, hc⟩ := FrsAt.pos h (by omega)
  simp at hv
  obtain ⟨c0, c1, c2⟩ := frCells_get l j x hx
  exact ⟨g, off, hv.1, hg, hc _ _ c0, hc _ _ c1, hc _ _ c2⟩

theorem Fl.frs_get (s : Fl) (f n j : Nat) (hj : j < n) : (s.frs f n)[j]? = some ⟨false, (f + j : Nat), s.body (f + j)⟩ := by simp [Fl.frs, hj]

theorem Fl.came_keeps (s : Fl) (n : Int) (ok : s.Ok) : (s.came n).win = s.win ∧ (s.came n).base + (s.came n).texts.length = s.base + s.texts.length ∧ s.base ≤ (s.came n).base ∧ (s.came n).next = s.next := by
  obtain ⟨a, b, c, d, e⟩ := ok
  unfold Fl.came
  split <;> simp
  omega

theorem Waits_at (w : World) (b : Nat) (tv : Value) (s : Fl) (hF : FlAt w b tv s) (ok : s.Ok) (p q : Nat) (hp : s.base + s.texts.length - s.next = p) (hq : s.next - s.base = q) :
    Calls Try.prog 16 #[.pointer (some ⟨b, 0, none⟩)] w fun e w' => e = .returned (.tuple #[.int .i64 p, .int .i64 q]) ∧ ∃ n, w' = w.drewN n := by
  subst hp hq; exact Waits_any w b tv s hF ok

/-- What holds at every round's head. -/
def WinRel (w : World) (W N b : Nat) (q : Nat) (nx i : Value) (wr : World) : Prop :=
  ∃ (k : Nat) (tv : Value) (s : Fl), k + q = N ∧ i = .int .i64 k ∧ nx = .int .i64 s.next ∧ FlAt wr b tv s ∧ s.Ok ∧ s.win = W ∧ s.base + s.texts.length ≤ k ∧ s.next ≤ s.base + W ∧ Upd w wr (fun _ => False) ∧ (∀ k, tv.ownBlock = some k → w.heap.size ≤ k)

set_option maxHeartbeats 1600000 in
theorem FlowWindow_any (w : World) (win : Int) (v : Value) (n : Nat) (A : Nat → ActD) (hA : ActsAt w v n A)
    (hdo : ∀ i, i < n → -9223372036854775808 ≤ (A i).dov ∧ (A i).dov ≤ 9223372036854775807) :
    Calls Try.prog 4 #[.int .i64 win, v] w fun e w' => e = .returned (.bool true) ∧ Upd w w' (fun _ => False) := by
  obtain ⟨a, cap, rfl, hnc, hcm, hcell⟩ := hA
  obtain ⟨W, eW⟩ : ∃ W : Nat, 1 + max 0 win % 64 = (W : Int) := ⟨(1 + max 0 win % 64).toNat, by omega⟩
  have W1 : 1 ≤ W := by omega
  have W64 : W ≤ 64 := by omega
  obtain ⟨N, eN⟩ : ∃ N : Nat, min (n : Int) 80 = (N : Int) := ⟨min n 80, by omega⟩
  have hNn : N ≤ n := by omega
  have hN80 : N ≤ 80 := by omega
  go_enter Try.func4, Try.ntmps4
  go_wp2_with fail
  refine Calls.mono (New_ok w W W1 W64) ?_
  rintro e w1 ⟨rfl, hF, hu, hsz⟩
  go_wp2_with fail
  refine Calls.mono (wakes_any w1) ?_
  rintro e w2 ⟨rfl, hu2⟩
  have hF2 := hF.upd hu2 id (fun _ _ => id)
  have u2 := hu.then hu2 (fun _ _ => id)
  have hb : w.heap.size < w2.heap.size := lt_at hF2.1
  clear hF hu hu2 hsz
  generalize hbb : w.heap.size = b at hF2 hb ⊢
  have Hbb := hide hbb
  clear hbb
  go_wp2_with fail
  go_loopg [8, 36] N (fun q nx i wr => WinRel w W N b q nx i wr)
  case atStart => exact ⟨0, _, _, by omega, rfl, rfl, hF2, ⟨W64, by simp, by simp, by simp, by simp⟩, rfl, by simp, by simp, u2, by simp [Value.ownBlock]⟩
  case round =>
    obtain ⟨k, tv, s, hk, rfl, rfl, hF, ok, hw, hl, hon, u, htv⟩ := hrel
    obtain ⟨ogk, rfl⟩ : ∃ ogk : Nat, ogk = gk := ⟨_, rfl⟩
    by_cases hkN : k < N
    · obtain ⟨b0, off, rfl, hb0, hc⟩ := hcell (by omega)
      obtain ⟨c0, c1, c2⟩ := hc k (by omega)
      rw [← u.cell _ _ hb0 id] at c0 c1 c2
      clear hc hcell
      have hd := hdo k (by omega)
      clear hdo
      generalize A k = x at c0 c1 c2 hd
      obtain ⟨dv, sq, bd⟩ := x
      simp only at c0 c1 c2 hd
      have hz : w.heap.size ≤ b := by rw [Hbb.out]; exact Nat.le_refl _
      have ha := (Upd.refl wr (fun _ => False)).alloc (.cells #[.int .i64 dv, .int .i64 sq, .string bd] 37)
      have hFa := hF.upd ha id (fun _ _ => id)
      have ua := u.then ha (fun _ _ => id)
      -- what every way comes to
      have fin : ∀ (wz : World) (tz : Value) (z : Fl) (x : Int), x = z.next → FlAt wz b tz z → z.Ok → z.win = W → z.base + z.texts.length ≤ k + 1 → z.next ≤ z.base + W → Upd w wz (fun _ => False) → (∀ i, tz.ownBlock = some i → w.heap.size ≤ i) → WinRel w W N b (ogk - 1) (.int .i64 x) (.int .i64 (k + 1)) wz :=
        fun wz tz z x hx h1 h2 h3 h4 h5 h6 h7 => ⟨k + 1, tz, z, by omega, by go_num, by rw [hx], h1, h2, h3, h4, h5, h6, h7⟩
      have Fin := hide fin
      clear fin
      go_wp2_with fail
      · -- Ready
        refine Calls.mono (Ready_any _ _ _ _ hFa ok) ?_
        rintro e w3 ⟨v, rfl, hv, hF3, hu3, hv3⟩
        obtain ⟨m, hm⟩ : ∃ m, s.upTo - s.next = m := ⟨_, rfl⟩
        rw [hm] at hv
        obtain ⟨sa, c, rfl, -⟩ := Rw.form hv
        simp only [Fl.frs_len] at hv ⊢
        have hmW : s.upTo ≤ s.base + W := by unfold Fl.upTo; omega
        have u3 := ua.then hu3 (fun i hi e => by omega)
        have hmU : s.upTo = s.next + m := by unfold Fl.upTo at hm ⊢; omega
        have hok3 : Fl.Ok { s with next := s.upTo } := ⟨ok.win, by have := ok.bn; simp; omega, by have := ok.nt; simp [Fl.upTo]; omega, ok.top, ok.want⟩
        rw [hmU] at hF3 hok3
        have hmb : s.next + m ≤ s.base + W := by omega
        clear hm hmU hu3 hFa hF
        go_wp2_with fail
        go_loopg [8, 52] m (fun q nx i w4 => ∃ j : Nat, j + q = m ∧ i = .int .i64 j ∧ nx = .int .i64 (s.next + j : Nat) ∧ Upd w3 w4 (fun _ => False))
        case atStart => exact ⟨0, by omega, rfl, rfl, Upd.refl _ _⟩
        case round =>
          obtain ⟨j, hj, rfl, rfl, q4⟩ := hrel
          by_cases hjm : j < m
          · obtain ⟨g, o, rfl, hg, d0, d1, d2⟩ := FrsAt.at (l := s.frs s.next m) (by rw [Fl.frs_len]; exact hv) j _ (Fl.frs_get s s.next m j hjm)
            rw [← q4.cell _ _ hg id] at d0 d1 d2
            simp only at d0 d1 d2
            go_wp2_with fail
            go_roundg (gk - 1)
            case measure => omega
            case rel => exact ⟨j + 1, by omega, by go_num, by go_num, q4.alloc _⟩
          · have hje : j = m := by omega
            subst hje
            have hF4 := hF3.upd q4 id (fun _ _ => id)
            obtain ⟨p, hp⟩ : ∃ p, s.base + s.texts.length - (s.next + j) = p := ⟨_, rfl⟩
            obtain ⟨q, hq⟩ : ∃ q, s.next + j - s.base = q := ⟨_, rfl⟩
            have hqW : decide (W < q) = false := by simp; have := ok.bn; omega
            go_wp2_with fail
            refine Calls.mono (Waits_at _ _ _ _ hF4 hok3 p q hp hq) ?_
            rintro e w5 ⟨rfl, n5, rfl⟩
            clear hp hq
            go_wp2_with fail
            go_roundg (ogk - 1)
            case measure => omega
            case rel => exact Fin.out (wr.drewN n5) _ _ _ (by simp) hF4 hok3 hw (by simp; omega) (by simp; omega) ((u3.then q4 (fun _ _ => id)).drewN _) htv
      · -- Tick
        refine Calls.mono (Tick_any _ _ _ _ hFa ok) ?_
        rintro e w3 ⟨v, rfl, hv, hu3, hv3⟩
        obtain ⟨m, hm⟩ : ∃ m, s.next - s.base = m := ⟨_, rfl⟩
        rw [hm] at hv
        obtain ⟨sa, c, rfl, -⟩ := Rw.form hv
        simp only [Fl.frs_len] at hv ⊢
        have hmW : decide (W < m) = false := by simp; omega
        have hF3 := hFa.upd hu3 id (fun _ _ => id)
        clear hm
        obtain ⟨p, hp⟩ : ∃ p, s.base + s.texts.length - s.next = p := ⟨_, rfl⟩
        obtain ⟨q, hq⟩ : ∃ q, s.next - s.base = q := ⟨_, rfl⟩
        have hqW : decide (W < q) = false := by simp; omega
        go_wp2_with fail
        refine Calls.mono (Waits_at _ _ _ _ hF3 ok p q hp hq) ?_
        rintro e w5 ⟨rfl, n5, rfl⟩
        clear hp hq
        go_wp2_with fail
        go_roundg (ogk - 1)
        case measure => omega
        case rel => exact Fin.out (w3.drewN n5) _ _ _ (by simp) hF3 ok hw (by omega) (by omega) ((ua.then hu3 (fun _ _ => id)).drewN _) htv
      · -- Take
        refine Calls.mono (Take_ack _ _ _ _ sq _ hFa ok) ?_
        rintro e w3 ⟨rfl, tv3, hF3, hu3, ho3⟩
        have ok3 := Fl.came_ok s sq ok
        obtain ⟨k1, k2, k3, k4⟩ := Fl.came_keeps s sq ok
        generalize s.came sq = z at hF3 ok3 k1 k2 k3 k4
        rw [hw] at k1
        obtain ⟨p, hp⟩ : ∃ p, z.base + z.texts.length - z.next = p := ⟨_, rfl⟩
        obtain ⟨q, hq⟩ : ∃ q, z.next - z.base = q := ⟨_, rfl⟩
        have hqW : decide (W < q) = false := by simp; omega
        go_wp2_with fail
        refine Calls.mono (Waits_at _ _ _ _ hF3 ok3 p q hp hq) ?_
        rintro e w5 ⟨rfl, n5, rfl⟩
        clear hp hq
        go_wp2_with fail
        go_roundg (ogk - 1)
        case measure => omega
        case rel => exact Fin.out (w3.drewN n5) tv3 z _ (by rw [k4]) hF3 ok3 k1 (by omega) (by omega) ((ua.then hu3 (fun i hi e => by omega)).drewN _) (fun i hi => htv i (by rw [← ho3]; exact hi))
      · -- Take
        refine Calls.mono (Take_ack _ _ _ _ sq _ hFa ok) ?_
        rintro e w3 ⟨rfl, tv3, hF3, hu3, ho3⟩
        have ok3 := Fl.came_ok s sq ok
        obtain ⟨k1, k2, k3, k4⟩ := Fl.came_keeps s sq ok
        generalize s.came sq = z at hF3 ok3 k1 k2 k3 k4
        rw [hw] at k1
        obtain ⟨p, hp⟩ : ∃ p, z.base + z.texts.length - z.next = p := ⟨_, rfl⟩
        obtain ⟨q, hq⟩ : ∃ q, z.next - z.base = q := ⟨_, rfl⟩
        have hqW : decide (W < q) = false := by simp; omega
        go_wp2_with fail
        refine Calls.mono (Waits_at _ _ _ _ hF3 ok3 p q hp hq) ?_
        rintro e w5 ⟨rfl, n5, rfl⟩
        clear hp hq
        go_wp2_with fail
        go_roundg (ogk - 1)
        case measure => omega
        case rel => exact Fin.out (w3.drewN n5) tv3 z _ (by rw [k4]) hF3 ok3 k1 (by omega) (by omega) ((ua.then hu3 (fun i hi e => by omega)).drewN _) (fun i hi => htv i (by rw [← ho3]; exact hi))
      · -- Send
        refine Calls.mono (Send_any _ _ _ _ _ hFa ok (by omega)) ?_
        rintro e w3 ⟨rfl, tv3, hF3, hu3, ho3⟩
        have ok3 : Fl.Ok { s with texts := s.texts ++ [⟨#[120]⟩] } := ⟨ok.win, ok.bn, by have := ok.nt; simp; omega, by have := ok.top; simp; omega, ok.want⟩
        obtain ⟨p, hp⟩ : ∃ p, s.base + (s.texts ++ [(⟨#[120]⟩ : ByteArray)]).length - s.next = p := ⟨_, rfl⟩
        obtain ⟨q, hq⟩ : ∃ q, s.next - s.base = q := ⟨_, rfl⟩
        have hqW : decide (W < q) = false := by simp; omega
        go_wp2_with fail
        refine Calls.mono (Waits_at _ _ _ _ hF3 ok3 p q hp hq) ?_
        rintro e w5 ⟨rfl, n5, rfl⟩
        clear hp hq
        go_wp2_with fail
        go_roundg (ogk - 1)
        case measure => omega
        case rel => exact Fin.out (w3.drewN n5) tv3 _ _ (by simp) hF3 ok3 hw (by simp; omega) (by simp; omega) ((ua.then hu3 (fun i hi e => by
          rcases e with e | e
          · omega
          · have := htv _ e; omega)).drewN _) (fun i hi => by
          rcases ho3 i hi with e | e
          · exact htv _ e
          · have := ua.size; omega)
    · go_wp2_with fail
      go_ret
      exact ⟨rfl, u⟩
end Go.Proofs.Ytfbmhfpffciojaa
