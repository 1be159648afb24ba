/- What an end and the reference's end tell of themselves. -/
import Derived.Test.YtfbmhfpffciojaaTwo
set_option maxRecDepth 100000
namespace Go.Proofs.Ytfbmhfpffciojaa
open Go.RowKit Go.Lat

section
variable {w wr : World} {b c : Nat} {tv tr : Value} {s s2 : Fl} {all : List ByteArray} {k L nx bs wt : Nat} {d : Bool}

theorem Two.draws (h : Two w wr b c tv tr s s2 all) (n : Nat) : Two w (wr.drewN n) b c tv tr s s2 all := h.step ((Upd.refl wr _).drewN n)

theorem Two.cells (h : Two w wr b c tv tr s s all) (hL : all.length = L) (hn : s.next = nx) (hb : s.base = bs) (hw : s.wanted = wt) :
    (∃ sa cap, tr = .slice sa L cap) ∧ wr.cell? ⟨c, 1, none⟩ = some tr ∧ wr.cell? ⟨c, 2, none⟩ = some (.int .i64 bs) ∧ wr.cell? ⟨c, 3, none⟩ = some (.int .i64 nx) ∧ wr.cell? ⟨c, 4, none⟩ = some (.int .i64 wt) := by
  subst hL hn hb hw
  obtain ⟨d0, d1, d2, d3, d4⟩ := cells5 h.rf.1
  obtain ⟨sa, cap, e, -⟩ := h.rf.2.1.form
  exact ⟨⟨sa, cap, e⟩, d1, d2, d3, d4⟩

theorem Agree.sizes (G : Agree s all k) (hL : all.length = L) (hn : s.next = nx) (hb : s.base = bs) : L ≤ 1000000 ∧ nx ≤ L ∧ bs ≤ nx := by
  subst hL hn hb
  exact ⟨by have := G.all; have := G.ok.top; omega, G.next, G.ok.bn⟩

theorem Waits_two (h : Two w wr b c tv tr s s2 all) (G : Agree s all k) (hL : all.length = L) (hn : s.next = nx) (hb : s.base = bs) :
    Calls Try.prog 16 #[.pointer (some ⟨b, 0, none⟩)] wr fun e w' => e = .returned (.tuple #[.int .i64 ((L : Int) - (nx : Int)), .int .i64 ((nx : Int) - (bs : Int))]) ∧ ∃ n, w' = wr.drewN n := by
  have h1 := G.all
  have h2 := G.next
  have h3 := G.ok.bn
  subst hL hn hb
  refine Calls.mono (Waits_any _ _ _ _ h.fl G.ok) ?_
  rintro e w' ⟨rfl, hw⟩
  refine ⟨?_, hw⟩
  rw [show ((s.base + s.texts.length - s.next : Nat) : Int) = (all.length : Int) - (s.next : Int) from by omega, show ((s.next - s.base : Nat) : Int) = (s.next : Int) - (s.base : Int) from by omega]

theorem Counts_two (h : Two w wr b c tv tr s s2 all) (G : Agree s all k) (hL : all.length = L) (hw : s.wanted = wt) :
    Calls Try.prog 26 #[.pointer (some ⟨b, 0, none⟩)] wr fun e w' => e = .returned (.tuple #[.int .i64 L, .int .i64 wt]) ∧ ∃ n, w' = wr.drewN n := by
  have h1 := G.all
  subst hL hw
  refine Calls.mono (Counts_any _ _ _ _ h.fl G.ok) ?_
  rintro e w' ⟨rfl, hw⟩
  refine ⟨?_, hw⟩
  rw [h1]

theorem Idle_two (h : Two w wr b c tv tr s s2 all) (G : Agree s all k) (hL : all.length = L) (hb : s.base = bs) (hd : (bs == L) = d) :
    Calls Try.prog 18 #[.pointer (some ⟨b, 0, none⟩)] wr fun e w' => e = .returned (.bool d) ∧ w' = wr := by
  have h1 := G.all
  subst hL hb hd
  refine Calls.mono (Idle_any _ _ _ _ h.fl) ?_
  rintro e w' ⟨rfl, hw⟩
  refine ⟨?_, hw⟩
  congr 2
  rw [Bool.eq_iff_iff, beq_iff_eq, beq_iff_eq]
  omega
end
end Go.Proofs.Ytfbmhfpffciojaa
