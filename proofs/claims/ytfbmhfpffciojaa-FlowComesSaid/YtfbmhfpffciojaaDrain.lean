/- Once nothing is lost any more, a round brings over all that the window lets: plain Lean, no program in sight. -/
import Derived.Test.YtfbmhfpffciojaaPlain
namespace Go.Proofs.Ytfbmhfpffciojaa
open Go.RowKit Go.Lat

/-- The invariant, whatever the bounds. -/
def Core (s : Bool → Sd) : Prop := ∃ k, Inv k s

/-- What came is what went for the first time, and no more. -/
def Nx (s : Bool → Sd) : Prop := ∀ c, (s c).fl.wanted ≤ (s (!c)).fl.next ∧ ∀ y ∈ (s c).way, y.ack = false → y.seq < (s (!c)).fl.next

theorem Core.take {s : Bool → Sd} (h : Core s) (c : Bool) (i : Nat) (stays : Bool) (y : Fr) (hy : (s c).way[i]? = some y) : Core (takeS s c i stays y) := by
  obtain ⟨k, h⟩ := h
  exact ⟨_, h.take c i stays y hy⟩
theorem Core.ready {s : Bool → Sd} (h : Core s) (c : Bool) : Core (readyS s c) := by
  obtain ⟨k, h⟩ := h
  exact ⟨_, h.ready c⟩
theorem Core.tick {s : Bool → Sd} (h : Core s) (c : Bool) : Core (tickS s c) := by
  obtain ⟨k, h⟩ := h
  exact ⟨_, h.tick c⟩
theorem Core.none {s : Bool → Sd} (h : Core s) (c : Bool) : Core (put s c { s c with way := [] }) := by
  obtain ⟨k, h⟩ := h
  exact ⟨_, h.way c [] (by simp) (by simp)⟩

theorem Core.side {s : Bool → Sd} (h : Core s) : ∃ k, ∀ c, Side k (s c) (s (!c)) ∧ Side k (s (!c)) (s c) := by
  obtain ⟨k, h⟩ := h
  exact ⟨k, fun c => ⟨h c, by have := h (!c); simpa using this⟩⟩

theorem Nx.step {s s' : Bool → Sd} (hc : Core s) (h : Nx s) (c : Bool) (hr : StepRel c s s') : Nx s' := by
  obtain ⟨k, hk⟩ := hc.side
  have key : ∀ (d : Bool), ((s' c).fl.wanted ≤ (s' (!c)).fl.next ∧ ∀ y ∈ (s' c).way, y.ack = false → y.seq < (s' (!c)).fl.next) → ((s' (!c)).fl.wanted ≤ (s' c).fl.next ∧ ∀ y ∈ (s' (!c)).way, y.ack = false → y.seq < (s' c).fl.next) →
      (s' d).fl.wanted ≤ (s' (!d)).fl.next ∧ ∀ y ∈ (s' d).way, y.ack = false → y.seq < (s' (!d)).fl.next := by
    intro d h1 h2
    by_cases hd : d = c
    · subst hd; exact h1
    · have : d = !c := by cases c <;> cases d <;> simp_all
      subst this; simpa using h2
  have a := h c
  have o := h (!c)
  rw [Bool.not_not] at o
  intro d
  rcases hr with rfl | ⟨t, rfl⟩ | rfl | rfl | ⟨i, rfl⟩ | ⟨y, hy, rfl⟩ | ⟨i, stays, y, hy, rfl⟩
  · exact h d
  · refine key d ?_ ?_ <;> simp [sendS, put]
    · exact ⟨a.1, fun y hy => by simpa using a.2 y hy⟩
    · exact ⟨o.1, fun y hy => by simpa using o.2 y hy⟩
  · have hu : (s c).fl.next ≤ (s c).fl.upTo := by unfold Fl.upTo; omega
    refine key d ?_ ?_ <;> simp only [readyS, put_same, put_other]
    · simp [put]
      exact ⟨a.1, fun y hy => by simpa using a.2 y hy⟩
    · simp [put]
      refine ⟨by omega, fun y hy => ?_⟩
      rcases hy with hy | hy
      · intro hya; have := o.2 y hy hya; omega
      · intro hya
        simp only [Fl.frs, List.mem_map, List.mem_range] at hy
        obtain ⟨j, hj, rfl⟩ := hy
        simp; omega
  · have hb := (hk c).1.bn
    refine key d ?_ ?_ <;> simp only [tickS, put_same]
    · simp [put]
      exact ⟨a.1, fun y hy => by simpa using a.2 y hy⟩
    · simp [put]
      refine ⟨o.1, fun y hy => ?_⟩
      rcases hy with hy | hy
      · intro hya; exact o.2 y hy hya
      · intro hya
        simp only [Fl.frs, List.mem_map, List.mem_range] at hy
        obtain ⟨j, hj, rfl⟩ := hy
        simp; omega
  · refine key d ?_ ?_ <;> simp [put]
    · exact ⟨a.1, fun y hy => by simpa using a.2 y (mem_dropAt hy)⟩
    · exact ⟨o.1, fun y hy => by simpa using o.2 y hy⟩
  · refine key d ?_ ?_ <;> simp [put]
    · refine ⟨a.1, fun z hz => ?_⟩
      rcases hz with hz | rfl
      · simpa using a.2 z hz
      · simpa using a.2 z hy
    · exact ⟨o.1, fun y hy => by simpa using o.2 y hy⟩
  · have hmem := List.mem_of_getElem? hy
    have hfn : ((s c).fl.fed y).next = (s c).fl.next := by
      unfold Fl.fed Fl.came Fl.take
      split <;> split <;> rfl
    have hfw : ((s c).fl.fed y).wanted ≤ (s (!c)).fl.next := by
      unfold Fl.fed Fl.came Fl.take
      split
      · split <;> exact a.1
      · rename_i hya
        have := a.2 y hmem (by simpa using hya)
        split
        · simp; omega
        · exact a.1
    refine key d ?_ ?_
    · cases stays <;> simp [takeS, put]
      · exact ⟨hfw, fun z hz => by simpa using a.2 z (mem_dropAt hz)⟩
      · exact ⟨hfw, fun z hz => by simpa using a.2 z hz⟩
    · cases stays <;> simp [takeS, put, hfn]
      all_goals
        refine ⟨o.1, fun z hz => ?_⟩
        rcases hz with hz | hz
        · simpa using o.2 z hz
        · unfold Fl.backs at hz
          split at hz
          · simp at hz
          · simp at hz; subst hz; simp

/-- No end's window is closed. -/
def Win (s : Bool → Sd) : Prop := ∀ c, 1 ≤ (s c).fl.win
theorem Win.step {s s' : Bool → Sd} (h : Win s) (c : Bool) (hr : StepRel c s s') : Win s' := by
  have e : ∀ d, (s' d).fl.win = (s d).fl.win := by
    intro d
    rcases hr with rfl | ⟨t, rfl⟩ | rfl | rfl | ⟨i, rfl⟩ | ⟨y, hy, rfl⟩ | ⟨i, stays, y, hy, rfl⟩
    · rfl
    · cases c <;> cases d <;> rfl
    · cases c <;> cases d <;> rfl
    · cases c <;> cases d <;> rfl
    · cases c <;> cases d <;> rfl
    · cases c <;> cases d <;> rfl
    · have hw : ((s c).fl.fed y).win = (s c).fl.win := by
        unfold Fl.fed Fl.came Fl.take
        split <;> split <;> rfl
      cases stays <;> cases c <;> cases d <;> first | rfl | exact hw
  intro d
  rw [e]; exact h d

/-- The frames of texts p to p + n of a sender. -/
def dat (o : Sd) (p n : Nat) : List Fr := (List.range n).map fun i => ⟨false, (p + i : Nat), o.sent.getD (p + i) ByteArray.empty⟩
theorem dat_len (o : Sd) (p n : Nat) : (dat o p n).length = n := by simp [dat]
theorem dat_cons (o : Sd) (p n : Nat) : dat o p (n + 1) = ⟨false, (p : Nat), o.sent.getD p ByteArray.empty⟩ :: dat o (p + 1) n := by
  simp only [dat, List.range_succ_eq_map, List.map_cons, List.map_map]
  congr 1
  apply List.map_congr_left
  intro i _
  have e : p + (i + 1) = p + 1 + i := by omega
  simp [Function.comp, Nat.succ_eq_add_one, e]
theorem dat_app (o : Sd) (p n m : Nat) : dat o p (n + m) = dat o p n ++ dat o (p + n) m := by
  simp only [dat, List.range_add, List.map_append, List.map_map]
  congr 1
  apply List.map_congr_left
  intro i _
  have e : p + (n + i) = p + n + i := by omega
  simp [Function.comp, e]
theorem dat_sent (o o' : Sd) (p n : Nat) (h : o'.sent = o.sent) : dat o' p n = dat o p n := by simp [dat, h]
theorem Side.frs {k : Nat} {a o : Sd} (h : Side k a o) (f n : Nat) (hf : a.fl.base ≤ f) : a.fl.frs f n = dat a f n := by
  simp only [Fl.frs, dat]
  apply List.map_congr_left
  intro i _
  simp only [Fl.body, h.texts]
  have e : a.fl.base + (f + i - a.fl.base) = f + i := by omega
  simp [List.getD_eq_getElem?_getD, List.getElem?_drop, e]

/-- In the midst of a round: on their way to c are n c frames of texts, up to the last one that went, and then Acks. -/
structure Dr (s : Bool → Sd) (n : Bool → Nat) (A : Bool → List Fr) : Prop where
  le : ∀ c, n c ≤ (s (!c)).fl.next
  way : ∀ c, (s c).way = dat (s (!c)) ((s (!c)).fl.next - n c) (n c) ++ A c
  ack : ∀ c, ∀ y ∈ A c, y.ack = true
  want : ∀ c, (s (!c)).fl.next - n c ≤ (s c).fl.wanted
  last : ∀ c, n (!c) = 0 → (s c).fl.base < (s c).fl.next → ∃ y ∈ A c, y.seq = (s c).fl.next

def Dr.left (n : Bool → Nat) (A : Bool → List Fr) : Nat := 2 * (n false + n true) + (A false).length + (A true).length

/-- What a frame leaves as it was. -/
structure Keeps (s s' : Bool → Sd) : Prop where
  sent : ∀ c, (s' c).sent = (s c).sent
  next : ∀ c, (s' c).fl.next = (s c).fl.next
theorem Keeps.refl (s : Bool → Sd) : Keeps s s := ⟨fun _ => rfl, fun _ => rfl⟩
theorem Keeps.trans {a b c : Bool → Sd} (h : Keeps a b) (k : Keeps b c) : Keeps a c := ⟨fun d => (k.sent d).trans (h.sent d), fun d => (k.next d).trans (h.next d)⟩
theorem takeS_keeps (s : Bool → Sd) (c : Bool) (i : Nat) (stays : Bool) (y : Fr) : Keeps s (takeS s c i stays y) := by
  have hn : ((s c).fl.fed y).next = (s c).fl.next := by
    unfold Fl.fed Fl.came Fl.take
    split <;> split <;> rfl
  constructor <;> intro d <;> cases stays <;> cases c <;> cases d <;> first | rfl | exact hn

theorem Bool.all_of {P : Bool → Prop} (c : Bool) (h1 : P c) (h2 : P (!c)) : ∀ d, P d := by
  intro d
  by_cases hd : d = c
  · subst hd; exact h1
  · have : d = !c := by cases c <;> cases d <;> simp_all
    subst this; exact h2

theorem left_put (n : Bool → Nat) (A : Bool → List Fr) (c : Bool) : Dr.left n A = 2 * (n c + n (!c)) + (A c).length + (A (!c)).length := by
  cases c <;> simp [Dr.left] <;> omega

theorem Dr.take {s : Bool → Sd} {n : Bool → Nat} {A : Bool → List Fr} (h : Dr s n A) (hN : Nx s) (hC : Core s) (c : Bool) (y : Fr) (hy : (s c).way[0]? = some y) :
    ∃ n' A', Dr (takeS s c 0 false y) n' A' ∧ Dr.left n' A' < Dr.left n A := by
  have hN' : Nx (takeS s c 0 false y) := hN.step hC c (.inr (.inr (.inr (.inr (.inr (.inr ⟨0, false, y, hy, rfl⟩))))))
  have hw := h.way c
  have hd : dropAt (s c).way 0 = (s c).way.tail := by simp [dropAt]
  have e1 : takeS s c 0 false y c = { s c with way := (s c).way.tail, fl := (s c).fl.fed y, inn := (s c).inn ++ (s c).fl.outs y } := by simp [takeS, put, hd]
  have e2 : takeS s c 0 false y (!c) = { s (!c) with way := (s (!c)).way ++ (s c).fl.backs y } := by simp [takeS, put]
  have hn : ((s c).fl.fed y).next = (s c).fl.next := by
    unfold Fl.fed Fl.came Fl.take
    split <;> split <;> rfl
  have hcc : (!c) ≠ c := by cases c <;> simp
  by_cases h0 : n c = 0
  · -- an Ack
    rw [h0] at hw
    simp only [dat, List.range_zero, List.map_nil, List.nil_append] at hw
    rw [hw] at hy
    obtain ⟨l, hl⟩ : ∃ l, A c = y :: l := by
      cases hA : A c with
      | nil => rw [hA] at hy; simp at hy
      | cons z l => rw [hA] at hy; simp at hy; exact ⟨l, by rw [hy]⟩
    have hya : y.ack = true := h.ack c y (by rw [hl]; simp)
    have hb : (s c).fl.backs y = [] := by simp [Fl.backs, hya]
    have hf : (s c).fl.fed y = (s c).fl.came y.seq := by simp [Fl.fed, hya]
    refine ⟨n, put A c l, ⟨?_, ?_, ?_, ?_, ?_⟩, by rw [left_put n _ c, left_put n A c, put_same, put_other, hl]; simp⟩
    · refine Bool.all_of c ?_ ?_
      · rw [e2]; exact h.le c
      · rw [Bool.not_not, e1]; simp only [hn]; have := h.le (!c); rwa [Bool.not_not] at this
    · refine Bool.all_of c ?_ ?_
      · rw [e1, e2, put_same, h0]; simp [dat, hw, hl]
      · rw [Bool.not_not, e1, e2, put_other, hb]; simp only [hn, List.append_nil]
        have := h.way (!c)
        rw [Bool.not_not] at this
        rw [this]; rfl
    · refine Bool.all_of c ?_ ?_
      · rw [put_same]; exact fun z hz => h.ack c z (by rw [hl]; simp [hz])
      · rw [put_other]; exact h.ack (!c)
    · refine Bool.all_of c ?_ ?_
      · rw [e1, e2, hf]; have := h.want c; unfold Fl.came; split <;> exact this
      · rw [Bool.not_not, e1, e2]; simp only [hn]; have := h.want (!c); rwa [Bool.not_not] at this
    · refine Bool.all_of c ?_ ?_
      · rw [e1, put_same]
        simp only [hn]
        intro hz hlt
        rw [hf] at hlt
        obtain ⟨z, hz1, hz2⟩ := h.last c hz (by unfold Fl.came at hlt; split at hlt <;> (try simp at hlt) <;> omega)
        rw [hl] at hz1
        rcases List.mem_cons.1 hz1 with rfl | hz1
        · exfalso
          have hbn : (s c).fl.base < (s c).fl.next := by unfold Fl.came at hlt; split at hlt <;> (try simp at hlt) <;> omega
          unfold Fl.came at hlt
          rw [if_pos (by omega)] at hlt
          simp at hlt; omega
        · exact ⟨z, hz1, hz2⟩
      · rw [Bool.not_not, e2, put_other]
        have := h.last (!c)
        rwa [Bool.not_not] at this
  · -- a text
    obtain ⟨m, hm⟩ : ∃ m, n c = m + 1 := ⟨n c - 1, by omega⟩
    have hle := h.le c
    rw [hm] at hw hle
    obtain ⟨p, hp⟩ : ∃ p, (s (!c)).fl.next - (m + 1) = p := ⟨_, rfl⟩
    rw [hp, dat_cons] at hw
    have hpn : p + (m + 1) = (s (!c)).fl.next := by omega
    rw [hw] at hy
    simp at hy
    have hya : y.ack = false := by rw [← hy]
    have hys : y.seq = p := by rw [← hy]
    have hf : (s c).fl.fed y = (s c).fl.take p := by simp [Fl.fed, hya, hys]
    have hb : (s c).fl.backs y = [⟨true, ((s c).fl.take p).wanted, ByteArray.empty⟩] := by simp [Fl.backs, hya, hys]
    have hwp : p ≤ (s c).fl.wanted := by have := h.want c; rw [hm, hp] at this; exact this
    have hwn : p + 1 ≤ ((s c).fl.take p).wanted := by unfold Fl.take; split <;> (try simp) <;> omega
    have hwu : ((s c).fl.take p).wanted ≤ (s (!c)).fl.next := by
      have := (hN' c).1
      rw [e1, e2, hf] at this
      exact this
    have htb : ((s c).fl.take p).base = (s c).fl.base := by unfold Fl.take; split <;> rfl
    refine ⟨put n c m, put A (!c) (A (!c) ++ [⟨true, ((s c).fl.take p).wanted, ByteArray.empty⟩]), ⟨?_, ?_, ?_, ?_, ?_⟩, ?_⟩
    · refine Bool.all_of c ?_ ?_
      · rw [e2, put_same]; simp; omega
      · rw [Bool.not_not, e1, put_other]; simp only [hn]; have := h.le (!c); rwa [Bool.not_not] at this
    · refine Bool.all_of c ?_ ?_
      · rw [e1, e2, put_same]
        have ep : (s (!c)).fl.next - m = p + 1 := by omega
        have eA : put A (!c) (A (!c) ++ [⟨true, ((s c).fl.take p).wanted, ByteArray.empty⟩]) c = A c := by have := put_other A (!c) (A (!c) ++ [⟨true, ((s c).fl.take p).wanted, ByteArray.empty⟩]); rwa [Bool.not_not] at this
        rw [eA, hw]
        simp only [ep, List.tail_cons, List.cons_append]
        rfl
      · rw [Bool.not_not, e1, e2, put_same, put_other, hb]; simp only [hn]
        have := h.way (!c)
        rw [Bool.not_not] at this
        rw [this, List.append_assoc]; rfl
    · refine Bool.all_of (!c) ?_ ?_
      · rw [put_same]; intro z hz
        rcases List.mem_append.1 hz with hz | hz
        · exact h.ack _ z hz
        · simp at hz; subst hz; rfl
      · rw [put_other, Bool.not_not]; exact h.ack c
    · refine Bool.all_of c ?_ ?_
      · rw [e1, e2, put_same, hf]; simp; omega
      · rw [Bool.not_not, e1, e2, put_other]; simp only [hn]; have := h.want (!c); rwa [Bool.not_not] at this
    · refine Bool.all_of c ?_ ?_
      · have eA : put A (!c) (A (!c) ++ [⟨true, ((s c).fl.take p).wanted, ByteArray.empty⟩]) c = A c := by have := put_other A (!c) (A (!c) ++ [⟨true, ((s c).fl.take p).wanted, ByteArray.empty⟩]); rwa [Bool.not_not] at this
        rw [e1, put_other, eA, hf]
        simp only [htb]
        have hn' : ((s c).fl.take p).next = (s c).fl.next := by unfold Fl.take; split <;> rfl
        rw [hn']
        exact h.last c
      · rw [Bool.not_not, e2, put_same, put_same]
        intro hm0 _
        exact ⟨_, List.mem_append_right _ (List.mem_singleton.2 rfl), by simp; omega⟩
    · have e3 := left_put n A c
      have e4 := left_put (put n c m) (put A (!c) (A (!c) ++ [⟨true, ((s c).fl.take p).wanted, ByteArray.empty⟩])) c
      have eA : put A (!c) (A (!c) ++ [⟨true, ((s c).fl.take p).wanted, ByteArray.empty⟩]) c = A c := by have := put_other A (!c) (A (!c) ++ [⟨true, ((s c).fl.take p).wanted, ByteArray.empty⟩]); rwa [Bool.not_not] at this
      rw [eA, put_same, put_same, put_other] at e4
      simp at e4
      omega

/-- A round's beginning. -/
def roundS (s : Bool → Sd) : Bool → Sd := readyS (tickS (readyS (tickS s false) false) true) true

theorem Dr.start {s : Bool → Sd} (hC : Core s) (he : ∀ c, (s c).way = []) :
    Dr (roundS s) (fun c => (s (!c)).fl.upTo - (s (!c)).fl.base) (fun _ => []) ∧ (∀ c, (roundS s c).fl.next = (s c).fl.upTo) ∧ (∀ c, (roundS s c).sent = (s c).sent) := by
  obtain ⟨k, hk⟩ := hC.side
  have hnx : ∀ c, (roundS s c).fl.next = (s c).fl.upTo := by intro c; cases c <;> rfl
  have hst : ∀ c, (roundS s c).sent = (s c).sent := by intro c; cases c <;> rfl
  have hbs : ∀ c, (roundS s c).fl.base = (s c).fl.base := by intro c; cases c <;> rfl
  have hwt : ∀ c, (roundS s c).fl.wanted = (s c).fl.wanted := by intro c; cases c <;> rfl
  have hway : ∀ c, (roundS s c).way = (s c).way ++ (s (!c)).fl.frs (s (!c)).fl.base ((s (!c)).fl.next - (s (!c)).fl.base) ++ (s (!c)).fl.frs (s (!c)).fl.next ((s (!c)).fl.upTo - (s (!c)).fl.next) := by intro c; cases c <;> rfl
  have hu : ∀ c, (s c).fl.base ≤ (s c).fl.next ∧ (s c).fl.next ≤ (s c).fl.upTo := fun c => ⟨(hk c).1.bn, by unfold Fl.upTo; omega⟩
  refine ⟨⟨fun c => by rw [hnx]; simp, fun c => ?_, fun c => by simp, fun c => ?_, fun c => ?_⟩, hnx, hst⟩
  · have h1 := hu (!c)
    rw [hway, he, hnx, dat_sent _ _ _ _ (hst (!c)), (hk c).2.frs _ _ (Nat.le_refl _), (hk c).2.frs _ _ h1.1]
    have e1 : (s (!c)).fl.upTo - ((s (!c)).fl.upTo - (s (!c)).fl.base) = (s (!c)).fl.base := by omega
    have e2 : (s (!c)).fl.upTo - (s (!c)).fl.base = ((s (!c)).fl.next - (s (!c)).fl.base) + ((s (!c)).fl.upTo - (s (!c)).fl.next) := by omega
    have e3 : (s (!c)).fl.base + ((s (!c)).fl.next - (s (!c)).fl.base) = (s (!c)).fl.next := by omega
    rw [e1, e2, dat_app, e3]
    simp
  · have h1 := hu (!c)
    rw [hnx, hwt]
    have := (hk c).2.base
    omega
  · intro h0 h1
    rw [hbs, hnx] at h1
    rw [Bool.not_not] at h0
    omega

/-- A round's end: all that went has come, and is known to have. -/
theorem Dr.done {s : Bool → Sd} {n : Bool → Nat} {A : Bool → List Fr} (h : Dr s n A) (hC : Core s) (he : ∀ c, (s c).way = []) : ∀ c, (s c).fl.base = (s c).fl.next := by
  obtain ⟨k, hk⟩ := hC.side
  have h0 : ∀ c, n c = 0 ∧ A c = [] := by
    intro c
    have := h.way c
    rw [he c] at this
    have hl := congrArg List.length this
    simp [dat_len] at hl
    exact ⟨by omega, List.eq_nil_of_length_eq_zero (by omega)⟩
  intro c
  have hb := (hk c).1.bn
  rcases Nat.lt_or_ge (s c).fl.base (s c).fl.next with hlt | hge
  · obtain ⟨y, hy, _⟩ := h.last c (h0 _).1 hlt
    rw [(h0 c).2] at hy; cases hy
  · omega
end Go.Proofs.Ytfbmhfpffciojaa
