/- What happens between two ends: the method step of the laws' object. -/
import Derived.Test.YtfbmhfpffciojaaTake
set_option maxRecDepth 100000
namespace Go.Proofs.Ytfbmhfpffciojaa
open Go.RowKit Go.Lat

def sendS (s : Bool → Sd) (c : Bool) (t : ByteArray) : Bool → Sd :=
  let s1 := put s c { s c with fl := { (s c).fl with texts := (s c).fl.texts ++ [t] } }
  put s1 c { s1 c with sent := (s1 c).sent ++ [t] }
def readyS (s : Bool → Sd) (c : Bool) : Bool → Sd :=
  let s1 := put s c { s c with fl := { (s c).fl with next := (s c).fl.upTo } }
  put s1 (!c) { s1 (!c) with way := (s1 (!c)).way ++ (s c).fl.frs (s c).fl.next ((s c).fl.upTo - (s c).fl.next) }
def tickS (s : Bool → Sd) (c : Bool) : Bool → Sd :=
  put s (!c) { s (!c) with way := (s (!c)).way ++ (s c).fl.frs (s c).fl.base ((s c).fl.next - (s c).fl.base) }

/-- What may happen. -/
def StepRel (c : Bool) (s s' : Bool → Sd) : Prop :=
  s' = s ∨ (∃ t, s' = sendS s c t) ∨ s' = readyS s c ∨ s' = tickS s c ∨ (∃ i, s' = put s c { s c with way := dropAt (s c).way i }) ∨
  (∃ y ∈ (s c).way, s' = put s c { s c with way := (s c).way ++ [y] }) ∨ (∃ i stays y, (s c).way[i]? = some y ∧ s' = takeS s c i stays y)

/-- The numbers are small enough. -/
structure Small (s : Bool → Sd) : Prop where
  ok : ∀ c, (s c).fl.Ok
  way : ∀ c, (s c).way.length ≤ 90000
  sent : ∀ c, (s c).sent.length ≤ 90000
  inn : ∀ c, (s c).inn.length ≤ 90000
  top : ∀ c, (s c).fl.base + (s c).fl.texts.length ≤ 90000

def StepPost (w : World) (eb : Nat) (own : Nat → Nat) (c : Bool) (s : Bool → Sd) (e : Ending) (w' : World) : Prop :=
  e = .returned (.tuple #[]) ∧ ∃ own' V' s', Mid w w' eb own own' V' s' ∧ StepRel c s s'
end Go.Proofs.Ytfbmhfpffciojaa
