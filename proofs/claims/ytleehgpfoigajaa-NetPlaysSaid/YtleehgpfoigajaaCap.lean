/- The append law again, with a bound on the new slice's room; and slices.Delete of one text, for slices that read. -/
import Derived.Test.YtleehgpfoigajaaLib
set_option maxRecDepth 100000
namespace Go.Lat
open Go.RowKit

def capOk : Value → Prop
  | .slice _ _ c => c ≤ maxLen
  | _ => True

section
variable {P : Program} (w : World)

theorem append_cap (t u ty e : TypeId) (d : TypeDesc) (i : TypeInfo) (z : Value) (size bytes : Nat) (ht : P.underlying t = some (.slice e)) (hu : P.underlying u = some d) (hud : ∀ k, d ≠ .int k) (hi : P.info? e = some i) (hz : i.zero = some z)
    (hsize : i.size = size) (hby : i.bytes = bytes)
    (v : Value) (n : Nat) (xs : List Value) (hv : Rw w e size v n xs) (hc : capOk v)
    (x : Value) (m : Nat) (news : List Value) (hx : Src P w size x m news) (hl : news.length = m * size) (h1 : ∀ u ∈ news, u.oneCell' = true)
    (hbytes : (n + m) * bytes ≤ 140737488355328) (h63 : n + m ≤ 9223372036854775807) (hm : 0 < m) (v' : Value) (w' : World) (hr : (Builtin.append_ #[t, u] ty #[v, x]).run P w = .ok v' w') : capOk v' := by
  subst hsize
  subst hby
  have hsrc := hv.src (P := P)
  have grow : ∀ (s : Option Addr) (cap : Nat), v = .slice s n cap → cap < n + m → capOk v' := by
    intro s cap hve hcn
    subst hve
    have hr2 := run_append_grow_at (P := P) w t u ty e d i z ht hu hud hi hz s n cap xs hsrc x m news hx hcn (by omega) (growslice_fits (by omega) hbytes)
    rw [hr] at hr2
    have := (Result.ok.inj hr2).1
    rw [this]
    exact grownCap_le_maxLen w (n + m) cap e (by unfold maxLen; omega)
  rcases hv.2 with ⟨rfl, rfl⟩ | ⟨g, off, cap, cur, rfl, hg, hnc, hcs, htake⟩
  · exact grow none 0 rfl (by omega)
  · by_cases hroom : n + m ≤ cap
    · have hle : (n + m) * i.size ≤ cap * i.size := Nat.mul_le_mul_right _ hroom
      have hfit : off + n * i.size + news.length ≤ cur.size := by rw [Nat.add_mul] at hle; omega
      have hr2 := run_append_room_at (P := P) w t u ty e d i ht hu hud hi g off n cap cur hg x m news hx h1 hroom hfit
      rw [hr] at hr2
      have := (Result.ok.inj hr2).1
      rw [this]
      exact hc
    · exact grow (some ⟨g, off, none⟩) cap rfl (by omega)

theorem step_append_rwc {ops : Array Oper} {o : Oper} {a : Act} {K : Act → World → Prop} {Q : Exit → Act → World → Prop} {E : Prop} (hgd : o.guard = none) (s x : Operand) (t u : TypeId)
    (ho : o.op = .call { callee := .builtin .append, args := #[s, x], argTypes := #[t, u] })
    (e : TypeId) (d : TypeDesc) (i : TypeInfo) (z : Value) (size bytes : Nat) (ht : P.underlying t = some (.slice e)) (hu : P.underlying u = some d) (hud : ∀ k, d ≠ .int k) (hi : P.info? e = some i) (hz : i.zero = some z)
    (hsize : i.size = size) (hby : i.bytes = bytes) (hzs : z.cells.size = size)
    (v : Value) (n : Nat) (xs : List Value) (hs : a.eval s = v) (hv : Rw w e size v n xs) (hc : capOk v)
    (vx : Value) (m : Nat) (news : List Value) (hvx : a.eval x = vx) (hx : Src P w size vx m news) (hl : news.length = m * size) (h1 : ∀ u ∈ news, u.oneCell' = true)
    (hbytes : (n + m) * bytes ≤ 140737488355328) (h63 : n + m ≤ 9223372036854775807) (hm : 0 < m)
    (h : ∀ ga c w', Rw w' e size (.slice ga (n + m) c) (n + m) (xs ++ news) → c ≤ maxLen → w.grownBy w' v.ownBlock → ((Value.slice ga (n + m) c).ownBlock = v.ownBlock ∨ (Value.slice ga (n + m) c).ownBlock = some w.heap.size) → K (a.put o.dst (.slice ga (n + m) c)) w') :
    if Region.wanted o (yielded ops a.tmps) = true then Oper.wp P o a w K Q else E := by
  have hw : Region.wanted o (yielded ops a.tmps) = true := by simp [Region.wanted, hgd]
  rw [if_pos hw]
  obtain ⟨v', w', hr, h2, h3, h4, h5⟩ := run_append_rw (P := P) w t u o.type e d i z size bytes ht hu hud hi hz hsize hby hzs v n xs hv vx m news hx hl h1 hbytes h63
  have hcap := append_cap (P := P) w t u o.type e d i z size bytes ht hu hud hi hz hsize hby v n xs hv hc vx m news hx hl h1 hbytes h63 hm v' w' hr
  obtain ⟨ga, c, rfl, _⟩ := h2.form
  unfold Oper.wp execOp
  simp only [ho, resolve, invoke, builtin, Sem.run_bind, Sem.run_pure, Result.andThen_ok, List.map_toArray, List.map_cons, List.map_nil, hs, hvx, hr]
  exact h ga c w' h2 hcap h3 h4
end
end Go.Lat
