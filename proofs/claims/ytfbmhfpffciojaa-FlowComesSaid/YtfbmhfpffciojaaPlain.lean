/- What stays true of two ends, whatever happens: plain Lean, no program in sight. -/
import Derived.Test.YtfbmhfpffciojaaStep
namespace Go.Proofs.Ytfbmhfpffciojaa
open Go.RowKit Go.Lat

/-- A frame on its way from o may be. -/
def FrOk (o : Sd) (y : Fr) : Prop := if y.ack then y.seq ≤ o.fl.wanted else ∃ n : Nat, y.seq = n ∧ n < o.sent.length ∧ y.body = o.sent.getD n ByteArray.empty

/-- One side, the other one, and how many steps there were. -/
structure Side (k : Nat) (a o : Sd) : Prop where
  win : a.fl.win ≤ 64
  bn : a.fl.base ≤ a.fl.next
  nt : a.fl.next ≤ a.sent.length
  texts : a.fl.texts = a.sent.drop a.fl.base
  inn : a.inn = o.sent.take a.fl.wanted
  want : a.fl.wanted ≤ o.sent.length
  base : a.fl.base ≤ o.fl.wanted
  way : ∀ y ∈ a.way, FrOk o y
  bS : a.sent.length ≤ k
  bW : a.way.length ≤ k * (k + 1)

def Inv (k : Nat) (s : Bool → Sd) : Prop := ∀ c, Side k (s c) (s (!c))

theorem Side.len {k : Nat} {a o : Sd} (h : Side k a o) : a.sent.length = a.fl.base + a.fl.texts.length := by
  have := h.bn; have := h.nt; rw [h.texts]; simp; omega
theorem Side.ok {k : Nat} {a o : Sd} (h : Side k a o) (h' : Side k o a) (hk : k ≤ 1000) : a.fl.Ok := by
  have h1 := h.len; have h2 := h.bS; have h3 := h.nt; have h4 := h.want; have h5 := h'.bS
  exact ⟨h.win, h.bn, by omega, by omega, by omega⟩
theorem Side.innLen {k : Nat} {a o : Sd} (h : Side k a o) : a.inn.length = a.fl.wanted := by rw [h.inn, List.length_take]; have := h.want; omega

theorem Inv.small {k : Nat} {s : Bool → Sd} (h : Inv k s) (hk : k ≤ 250) : Small s := by
  have hh : ∀ c, Side k (s (!c)) (s c) := fun c => by have := h (!c); simpa using this
  have hq : k * (k + 1) ≤ 250 * 251 := Nat.mul_le_mul hk (by omega)
  refine ⟨fun c => (h c).ok (hh c) (by omega), fun c => by have := (h c).bW; omega, fun c => by have := (h c).bS; omega, fun c => ?_, fun c => ?_⟩
  · rw [(h c).innLen]; have h1 := (h c).want; have h2 := (hh c).bS; omega
  · have := (h c).len; have := (h c).bS; omega

theorem mulStep (k : Nat) : (k + 1) * (k + 1 + 1) = k * (k + 1) + 2 * k + 2 := by
  rw [Nat.add_mul, Nat.mul_add, Nat.mul_add]; omega

theorem Side.more {k : Nat} {a o : Sd} (h : Side k a o) : Side (k + 1) a o :=
  ⟨h.win, h.bn, h.nt, h.texts, h.inn, h.want, h.base, h.way, by have := h.bS; omega, by rw [mulStep]; have := h.bW; omega⟩

theorem Fl.frs_body {k : Nat} {a o : Sd} (h : Side k a o) (f n : Nat) (hf : a.fl.base ≤ f) (hn : f + n ≤ a.sent.length) : ∀ y ∈ a.fl.frs f n, FrOk a y := by
  intro y hy
  simp only [Fl.frs, List.mem_map, List.mem_range] at hy
  obtain ⟨i, hi, rfl⟩ := hy
  refine ⟨f + i, rfl, by omega, ?_⟩
  simp only [Fl.body]
  rw [h.texts]
  have e : a.fl.base + (f + i - a.fl.base) = f + i := by omega
  simp [List.getD_eq_getElem?_getD, List.getElem?_drop, e]

theorem FrOk.sent {o : Sd} {y : Fr} (h : FrOk o y) (t : ByteArray) : FrOk { o with sent := o.sent ++ [t], fl := { o.fl with texts := o.fl.texts ++ [t] } } y := by
  unfold FrOk at *
  split at h
  · rename_i ha; rw [if_pos ha]; exact h
  · rename_i ha
    rw [if_neg ha]
    obtain ⟨n, h1, h2, h3⟩ := h
    refine ⟨n, h1, by simp; omega, ?_⟩
    rw [h3]
    simp [List.getD_eq_getElem?_getD, List.getElem?_append_left h2]

/-- Both sides, side c first. -/
theorem Inv.of {k : Nat} {s : Bool → Sd} (c : Bool) (h1 : Side k (s c) (s (!c))) (h2 : Side k (s (!c)) (s c)) : Inv k s := by
  intro d
  by_cases hd : d = c
  · subst hd; exact h1
  · have : d = !c := by cases c <;> cases d <;> simp_all
    subst this; simpa using h2

theorem Inv.send {k : Nat} {s : Bool → Sd} (h : Inv k s) (c : Bool) (t : ByteArray) : Inv (k + 1) (sendS s c t) := by
  have a := h c
  have o : Side k (s (!c)) (s c) := by have := h (!c); simpa using this
  have e1 : sendS s c t c = { s c with sent := (s c).sent ++ [t], fl := { (s c).fl with texts := (s c).fl.texts ++ [t] } } := by simp [sendS, put]
  have e2 : sendS s c t (!c) = s (!c) := by simp [sendS, put]
  have hb := a.bn; have hn := a.nt
  refine Inv.of c ?_ ?_ <;> rw [e1, e2]
  · refine ⟨a.win, a.bn, by simp; omega, ?_, a.inn, a.want, a.base, a.way, by have := a.bS; simp; omega, by rw [mulStep]; have := a.bW; simp; omega⟩
    simp only [a.texts]
    rw [List.drop_append_of_le_length (by omega)]
  · refine ⟨o.win, o.bn, o.nt, o.texts, ?_, by have := o.want; simp; omega, o.base, fun y hy => (o.way y hy).sent t, by have := o.bS; omega, by rw [mulStep]; have := o.bW; omega⟩
    rw [List.take_append_of_le_length o.want]; exact o.inn

theorem Inv.ready {k : Nat} {s : Bool → Sd} (h : Inv k s) (c : Bool) : Inv (k + 1) (readyS s c) := by
  have a := h c
  have o : Side k (s (!c)) (s c) := by have := h (!c); simpa using this
  have hb := a.bn; have hn := a.nt; have hl := a.len; have hs := a.bS
  have hu : (s c).fl.next ≤ (s c).fl.upTo ∧ (s c).fl.upTo ≤ (s c).sent.length := by unfold Fl.upTo; omega
  have e1 : readyS s c c = { s c with fl := { (s c).fl with next := (s c).fl.upTo } } := by simp [readyS, put]
  have e2 : readyS s c (!c) = { s (!c) with way := (s (!c)).way ++ (s c).fl.frs (s c).fl.next ((s c).fl.upTo - (s c).fl.next) } := by simp [readyS, put]
  refine Inv.of c ?_ ?_ <;> rw [e1, e2]
  · exact ⟨a.win, by simp; omega, hu.2, a.texts, a.inn, a.want, a.base, a.way, by simp; omega, by rw [mulStep]; have := a.bW; simp; omega⟩
  · refine ⟨o.win, o.bn, o.nt, o.texts, o.inn, o.want, o.base, fun y hy => ?_, by have := o.bS; simp; omega, by rw [mulStep]; have := o.bW; simp [Fl.frs_len]; omega⟩
    rcases List.mem_append.1 hy with hy | hy
    · exact o.way y hy
    · exact Fl.frs_body a _ _ hb (by omega) y hy

theorem Inv.tick {k : Nat} {s : Bool → Sd} (h : Inv k s) (c : Bool) : Inv (k + 1) (tickS s c) := by
  have a := h c
  have o : Side k (s (!c)) (s c) := by have := h (!c); simpa using this
  have hb := a.bn; have hn := a.nt; have hs := a.bS
  have e1 : tickS s c c = s c := by simp [tickS, put]
  have e2 : tickS s c (!c) = { s (!c) with way := (s (!c)).way ++ (s c).fl.frs (s c).fl.base ((s c).fl.next - (s c).fl.base) } := by simp [tickS, put]
  refine Inv.of c ?_ ?_ <;> rw [e1, e2]
  · exact ⟨a.win, a.bn, a.nt, a.texts, a.inn, a.want, a.base, a.way, by omega, by rw [mulStep]; have := a.bW; omega⟩
  · refine ⟨o.win, o.bn, o.nt, o.texts, o.inn, o.want, o.base, fun y hy => ?_, by have := o.bS; simp; omega, by rw [mulStep]; have := o.bW; simp [Fl.frs_len]; omega⟩
    rcases List.mem_append.1 hy with hy | hy
    · exact o.way y hy
    · exact Fl.frs_body a _ _ (Nat.le_refl _) (by omega) y hy

/-- The frames on their way to c are others now, all of which may be. -/
theorem Inv.way {k : Nat} {s : Bool → Sd} (h : Inv k s) (c : Bool) (l : List Fr) (hl : ∀ y ∈ l, y ∈ (s c).way) (hn : l.length ≤ (s c).way.length + 1) : Inv (k + 1) (put s c { s c with way := l }) := by
  have a := h c
  have o : Side k (s (!c)) (s c) := by have := h (!c); simpa using this
  have e1 : put s c { s c with way := l } c = { s c with way := l } := by simp [put]
  have e2 : put s c { s c with way := l } (!c) = s (!c) := by simp [put]
  refine Inv.of c ?_ ?_ <;> rw [e1, e2]
  · exact ⟨a.win, a.bn, a.nt, a.texts, a.inn, a.want, a.base, fun y hy => a.way y (hl y hy), by have := a.bS; simp; omega, by rw [mulStep]; have := a.bW; simp; omega⟩
  · exact ⟨o.win, o.bn, o.nt, o.texts, o.inn, o.want, o.base, o.way, by have := o.bS; omega, by rw [mulStep]; have := o.bW; omega⟩

theorem mem_dropAt {l : List Fr} {i : Nat} {y : Fr} (h : y ∈ dropAt l i) : y ∈ l := by
  unfold dropAt at h
  rcases List.mem_append.1 h with h | h
  · exact List.mem_of_mem_take h
  · exact List.mem_of_mem_drop h
theorem len_dropAt (l : List Fr) (i : Nat) : (dropAt l i).length ≤ l.length := by unfold dropAt; simp; omega

theorem Inv.take {k : Nat} {s : Bool → Sd} (h : Inv k s) (c : Bool) (i : Nat) (stays : Bool) (y : Fr) (hy : (s c).way[i]? = some y) : Inv (k + 1) (takeS s c i stays y) := by
  have a := h c
  have o : Side k (s (!c)) (s c) := by have := h (!c); simpa using this
  obtain ⟨l, hl, hn, e1, e2⟩ : ∃ l : List Fr, (∀ z ∈ l, z ∈ (s c).way) ∧ l.length ≤ (s c).way.length ∧ takeS s c i stays y c = { s c with way := l, fl := (s c).fl.fed y, inn := (s c).inn ++ (s c).fl.outs y } ∧
      takeS s c i stays y (!c) = { s (!c) with way := (s (!c)).way ++ (s c).fl.backs y } := by
    cases stays
    · exact ⟨dropAt (s c).way i, fun z hz => mem_dropAt hz, len_dropAt _ _, by simp [takeS, put], by simp [takeS, put]⟩
    · exact ⟨(s c).way, fun z hz => hz, Nat.le_refl _, by simp [takeS, put], by simp [takeS, put]⟩
  have hk := a.way y (List.mem_of_getElem? hy)
  have hb := a.bn; have hnt := a.nt; have hs := a.bS; have hw := a.want; have hos := o.bS
  have b1 : (k + 1) * (k + 1 + 1) = k * (k + 1) + 2 * k + 2 := mulStep k
  have b2 := a.bW
  have b3 := o.bW
  refine Inv.of c ?_ ?_ <;> rw [e1, e2]
  · -- the side to which it came
    cases hya : y.ack with
    | true =>
      have hle : y.seq ≤ (s (!c)).fl.wanted := by unfold FrOk at hk; simpa [hya] using hk
      have ef : (s c).fl.fed y = (s c).fl.came y.seq := by simp [Fl.fed, hya]
      have eo : (s c).fl.outs y = [] := by simp [Fl.outs, hya]
      rw [ef, eo]
      unfold Fl.came
      split
      · rename_i hc
        refine ⟨a.win, by simp; omega, a.nt, ?_, by simpa using a.inn, a.want, by simp; omega, fun z hz => a.way z (hl z hz), by simp; omega, by simp; omega⟩
        simp only [a.texts, List.drop_drop]
        congr 1
        omega
      · exact ⟨a.win, a.bn, a.nt, a.texts, by simpa using a.inn, a.want, a.base, fun z hz => a.way z (hl z hz), by simp; omega, by simp; omega⟩
    | false =>
      obtain ⟨n, hn1, hn2, hn3⟩ : ∃ n : Nat, y.seq = n ∧ n < (s (!c)).sent.length ∧ y.body = (s (!c)).sent.getD n ByteArray.empty := by unfold FrOk at hk; simpa [hya] using hk
      have ef : (s c).fl.fed y = (s c).fl.take y.seq := by simp [Fl.fed, hya]
      have eo : (s c).fl.outs y = (s c).fl.got y.seq y.body := by simp [Fl.outs, hya]
      rw [ef, eo]
      unfold Fl.take Fl.got
      split
      · rename_i hc
        have hnw : n = (s c).fl.wanted := by omega
        refine ⟨a.win, a.bn, a.nt, a.texts, ?_, by simp; omega, a.base, fun z hz => a.way z (hl z hz), by simp; omega, by simp; omega⟩
        simp only [a.inn, hn3]
        rw [← hnw, List.take_add_one]
        simp [List.getD_eq_getElem?_getD, List.getElem?_eq_getElem hn2]
      · exact ⟨a.win, a.bn, a.nt, a.texts, by simpa using a.inn, a.want, a.base, fun z hz => a.way z (hl z hz), by simp; omega, by simp; omega⟩
  · -- the other one
    have hwt : (s c).fl.wanted ≤ ((s c).fl.fed y).wanted := by
      unfold Fl.fed Fl.came Fl.take
      split <;> split <;> simp
    have hmono : ∀ z, FrOk (s c) z → FrOk { s c with way := l, fl := (s c).fl.fed y, inn := (s c).inn ++ (s c).fl.outs y } z := by
      intro z hz
      unfold FrOk at *
      split at hz
      · rename_i hza; rw [if_pos hza]; simp; omega
      · rename_i hza; rw [if_neg hza]; exact hz
    have hbl : ((s c).fl.backs y).length ≤ 1 := by unfold Fl.backs; split <;> simp
    refine ⟨o.win, o.bn, o.nt, o.texts, o.inn, o.want, by have := o.base; simp; omega, fun z hz => ?_, by simp; omega, by simp; omega⟩
    rcases List.mem_append.1 hz with hz | hz
    · exact hmono z (o.way z hz)
    · unfold Fl.backs at hz
      split at hz
      · simp at hz
      · rename_i hya
        simp at hz
        subst hz
        have ef : (s c).fl.fed y = (s c).fl.take y.seq := by simp [Fl.fed, hya]
        simp [FrOk, ef]

theorem Inv.step {k : Nat} {s s' : Bool → Sd} (h : Inv k s) (c : Bool) (hr : StepRel c s s') : Inv (k + 1) s' := by
  rcases hr with rfl | ⟨t, rfl⟩ | rfl | rfl | ⟨i, rfl⟩ | ⟨y, hy, rfl⟩ | ⟨i, stays, y, hy, rfl⟩
  · exact fun d => (h d).more
  · exact h.send c t
  · exact h.ready c
  · exact h.tick c
  · exact h.way c _ (fun z hz => mem_dropAt hz) (by have := len_dropAt (s c).way i; omega)
  · exact h.way c _ (fun z hz => by
      rcases List.mem_append.1 hz with hz | hz
      · exact hz
      · simp at hz; subst hz; exact hy) (by simp)
  · exact h.take c i stays y hy

/-- What method right asks. -/
theorem Inv.right {k : Nat} {s : Bool → Sd} (h : Inv k s) :
    (∀ c, (s c).inn.length ≤ (s (!c)).sent.length) ∧ (∀ c, (s (!c)).sent.take (s c).inn.length = (s c).inn) ∧ (∀ c, (s c).fl.base ≤ (s (!c)).inn.length) ∧ (∀ c, (s c).sent.length = (s c).fl.base + (s c).fl.texts.length) := by
  have hh : ∀ c, Side k (s (!c)) (s c) := fun c => by have := h (!c); simpa using this
  refine ⟨fun c => by rw [(h c).innLen]; exact (h c).want, fun c => by rw [(h c).innLen]; exact (h c).inn.symm, fun c => by rw [(hh c).innLen]; exact (h c).base, fun c => (h c).len⟩
end Go.Proofs.Ytfbmhfpffciojaa
