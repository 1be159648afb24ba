/- The walk of latticeref16's Sorted: links in order, each once. -/
import Derived.Test.YtcclkfkdafmemaaCrC
import Derived.StillTailTactics
set_option maxRecDepth 100000
namespace Go.Proofs.Ytcclkfkdafmemaa
open Go.RowKit Go.Lat

theorem own_lo {a b : Option Nat} {n base : Nat} (h : a = b ∨ a = some n) (hb : ∀ k, b = some k → base ≤ k) (hn : base ≤ n) : ∀ k, a = some k → base ≤ k := by
  intro k hk
  rcases h with e | e
  · exact hb k (e ▸ hk)
  · have := Option.some.inj (e.symm.trans hk)
    omega
theorem Try.info31 : (Try.prog.info? 31).map (fun i => (i.zero, i.size, i.bytes)) = some (some (.agg #[.string ⟨#[]⟩, .string ⟨#[]⟩, .int .i64 0, .int .i64 0]), 4, 48) := by kernel_rfl
/-- A link is being put into a list in order. -/
def Ins (p : Lk) (T nx : List Lk) (put : Bool) : Prop :=
  (put = false ∧ nx = T ∧ ∀ z ∈ T, ¬ ltP p z) ∨ (put = true ∧ ∃ A z B, T = A ++ z :: B ∧ nx = A ++ p :: z :: B ∧ (∀ y ∈ A, ¬ ltP p y) ∧ ltP p z)
theorem Ins.nil (p : Lk) : Ins p [] [] false := .inl ⟨rfl, rfl, by simp⟩
theorem Ins.put {p z : Lk} {T nx : List Lk} (h : Ins p T nx false) (hz : ltP p z) : Ins p (T ++ [z]) ((nx ++ [p]) ++ [z]) true := by
  rcases h with ⟨_, rfl, h⟩ | ⟨h, _⟩
  · exact .inr ⟨rfl, nx, z, [], rfl, by simp, h, hz⟩
  · cases h
theorem Ins.skip {p z : Lk} {T nx : List Lk} {put : Bool} (h : Ins p T nx put) (hz : put = true ∨ ¬ ltP p z) : Ins p (T ++ [z]) (nx ++ [z]) put := by
  rcases h with ⟨rfl, rfl, h⟩ | ⟨rfl, A, y, B, rfl, rfl, h1, h2⟩
  · refine .inl ⟨rfl, rfl, fun x hx => ?_⟩
    rcases List.mem_append.1 hx with hx | hx
    · exact h x hx
    · simp at hx
      subst hx
      exact hz.resolve_left (by simp)
  · exact .inr ⟨rfl, A, y, B ++ [z], by simp, by simp, h1, h2⟩
theorem Ins.len {p : Lk} {T nx : List Lk} {put : Bool} (h : Ins p T nx put) : nx.length ≤ T.length + 1 := by
  rcases h with ⟨_, rfl, h⟩ | ⟨_, A, y, B, rfl, rfl, h1, h2⟩
  · omega
  · simp; omega
theorem Ins.len0 {p : Lk} {T nx : List Lk} (h : Ins p T nx false) : nx.length = T.length := by
  rcases h with ⟨_, rfl, h⟩ | ⟨h, _⟩
  · rfl
  · cases h
theorem Ins.fin {p : Lk} {T nx : List Lk} {put : Bool} (h : Ins p T nx put) (hs : T.Pairwise ltP) (hp : p ∉ T) :
    (put = true → nx.Pairwise ltP ∧ ∀ x, x ∈ nx ↔ x ∈ T ∨ x = p) ∧ (put = false → (nx ++ [p]).Pairwise ltP ∧ ∀ x, x ∈ nx ++ [p] ↔ x ∈ T ∨ x = p) := by
  rcases h with ⟨rfl, rfl, h⟩ | ⟨rfl, A, y, B, rfl, rfl, h1, h2⟩
  · refine ⟨fun h => (by cases h), fun _ => ⟨?_, fun x => by simp⟩⟩
    rw [List.pairwise_append]
    refine ⟨hs, by simp, fun a ha b hb => ?_⟩
    simp at hb
    subst hb
    by_cases q : ltP a b
    · exact q
    · exact absurd (ltP_total (h a ha) q) (fun e => hp (e ▸ ha))
  · refine ⟨fun _ => ⟨?_, fun x => ?_⟩, fun h => (by cases h)⟩
    · rw [List.pairwise_append] at hs ⊢
      obtain ⟨s1, s2, s3⟩ := hs
      have q2 := List.pairwise_cons.1 s2
      refine ⟨s1, List.pairwise_cons.2 ⟨fun b hb => ?_, s2⟩, fun a ha b hb => ?_⟩
      · rcases List.mem_cons.1 hb with rfl | hb
        · exact h2
        · exact ltP_trans h2 (q2.1 b hb)
      · rcases List.mem_cons.1 hb with rfl | hb
        · by_cases q : ltP a b
          · exact q
          · exact absurd (ltP_total (h1 a ha) q) (fun e => hp (e ▸ List.mem_append_left _ ha))
        · exact s3 a ha b hb
    · simp only [List.mem_append, List.mem_cons]
      constructor
      · rintro (q | rfl | rfl | q)
        · exact .inl (.inl q)
        · exact .inr rfl
        · exact .inl (.inr (.inl rfl))
        · exact .inl (.inr (.inr q))
      · rintro ((q | rfl | q) | rfl)
        · exact .inl q
        · exact .inr (.inr (.inl rfl))
        · exact .inr (.inr (.inr q))
        · exact .inr (.inl rfl)
theorem take_next' {L : List Lk} {j : Nat} {x : Lk} (h : L[j]? = some x) : L.take (j + 1) = L.take j ++ [x] := by
  rw [List.take_add_one, h]
  rfl

set_option maxHeartbeats 12800000 in
theorem RSorted_any (w : World) (va : Option Addr) (vc : Nat) (L : List Lk) (hr : Rw w 31 4 (.slice va L.length vc) L.length (lkCells L)) (hok : ∀ x ∈ L, x.ok) (hl : L.length ≤ 1000000) :
    Calls Try.prog 37 #[.slice va L.length vc] w fun e w' => ∃ a c ks, e = .returned (.slice a ks.length c) ∧ Rw w' 31 4 (.slice a ks.length c) ks.length (lkCells ks) ∧ ks.Pairwise ltP ∧ (∀ x, x ∈ ks ↔ x ∈ L) ∧ ks.length ≤ L.length ∧
      (∀ k, (Value.slice a ks.length c).ownBlock = some k → w.heap.size ≤ k) ∧ Upd w w' (fun _ => False) := by
  obtain ⟨N, hN⟩ : ∃ N, L.length = N := ⟨_, rfl⟩
  rw [hN] at hr hl ⊢
  obtain ⟨iO, hiO, hO0, hO1, hO2⟩ := info_parts Try.info31
  have HN := hide hN
  have HR := hide hr
  have HOK := hide hok
  clear hN hr hok
  go_enter Try.func37, Try.ntmps37
  go_wp2_with fail
  go_loopg [3, 4] N (fun q ov iv wr => ∃ (i : Nat) (O : List Lk), i + q = N ∧ iv = .int .i64 i ∧ Rw wr 31 4 ov O.length (lkCells O) ∧ O.Pairwise ltP ∧ (∀ x, x ∈ O ↔ x ∈ L.take i) ∧ O.length ≤ i ∧ (∀ k, ov.ownBlock = some k → w.heap.size ≤ k) ∧ Upd w wr (fun _ => False))
  case atStart => exact ⟨0, [], by omega, rfl, by simpa [lkCells] using Rw.nil _ _ _, List.Pairwise.nil, by simp, by simp, fun k hk => (by cases hk), Upd.refl _ _⟩
  case round =>
    obtain ⟨i, O, hi, rfl, hra, hpw, hmem, hlen, hown, hu⟩ := hrel
    obtain ⟨gi, hgi⟩ : ∃ o, gk = o := ⟨_, rfl⟩
    rw [hgi] at hi
    obtain ⟨oa, oc, rfl, -⟩ := Rw.form hra
    by_cases hiN : i < N
    · obtain ⟨p, hp⟩ : ∃ x, L[i]? = some x := ⟨_, List.getElem?_eq_getElem (by rw [HN.out]; exact hiN)⟩
      have pok := HOK.out p (List.mem_of_getElem? hp)
      have ook : ∀ x ∈ O, x.ok := fun x hx => HOK.out x (List.mem_of_mem_take ((hmem x).1 hx))
      obtain ⟨g, off, rfl, hg, p0, p1, p2, p3⟩ := row_at (HR.out) i p hp hiN
      have d0 := (hu.cell g _ hg id).trans p0
      have d1 := (hu.cell g _ hg id).trans p1
      have d2 := (hu.cell g _ hg id).trans p2
      have d3 := (hu.cell g _ hg id).trans p3
      have glt : g < wr.heap.size := Nat.lt_of_lt_of_le hg hu.size
      have hi0 : (0 : Int) ≤ (i : Int) := by omega
      have hi1 : (i : Int) < (N : Int) := by omega
      have HAS := Has_any wr oa oc O hra ook p pok (by omega)
      have HTK := hide (take_next' hp)
      have HPOK := hide pok
      have HOOK := hide ook
      have HRA := hide hra
      have HPW := hide hpw
      have HMEM := hide hmem
      have HOWN := hide hown
      have HU := hide hu
      obtain ⟨M, hM⟩ : ∃ M, O.length = M := ⟨_, rfl⟩
      rw [hM] at hlen HAS HRA HOWN ⊢
      have HM := hide hM
      have hgi' := hide hgi
      obtain ⟨P, hP⟩ : ∃ P, P = p := ⟨_, rfl⟩
      rw [← hP] at HTK HPOK
      have HPP := hide hP
      clear p0 p1 p2 p3 hp pok ook hra hpw hmem hown hu hM hgi
      by_cases hin : p ∈ O
      · have e : decide (p ∈ O) = true := by simpa using hin
        rw [e] at HAS
        have HIN := hide (hP ▸ hin)
        clear e hin hP
        obtain ⟨pb, ps, pc, pr⟩ := p
        unfold Lk.val at HAS
        simp only at HAS d0 d1 d2 d3
        have HHAS := hide HAS
        clear HAS
        go_wp2_with (go_at_call 50; refine Calls.mono HHAS.out ?_; rintro e w1 ⟨rfl, u1⟩)
        go_roundg (gi - 1)
        case measure => have := hgi'.out; omega
        case rel =>
          refine ⟨i + 1, O, by omega, by go_num, ?_, HPW.out, fun x => ?_, by have := HM.out; omega, ?_, HU.out.then u1 (fun _ _ => id)⟩
          · have := u1.rw HRA.out (fun _ _ => id)
            rwa [HM.out]
          · rw [HTK.out, List.mem_append, ← HMEM.out]
            constructor
            · exact .inl
            · rintro (q | q)
              · exact q
              · simp at q; subst q; exact HIN.out
          · exact HOWN.out
      · have e : decide (p ∈ O) = false := by simpa using hin
        rw [e] at HAS
        have HIN := hide (hP ▸ hin)
        clear e hin hP
        obtain ⟨pb, ps, pc, pr⟩ := p
        unfold Lk.val at HAS
        simp only at HAS d0 d1 d2 d3
        have HHAS := hide HAS
        clear HAS
        go_wp2_with (go_at_call 50; refine Calls.mono HHAS.out ?_; rintro e w1 ⟨rfl, u1⟩)
        have HRA1 := hide (u1.rw HRA.out (fun _ _ => id))
        have HU1 := hide (HU.out.then u1 (fun _ _ => id))
        have c0 := (u1.cell g _ glt id).trans d0
        have c1 := (u1.cell g _ glt id).trans d1
        have c2 := (u1.cell g _ glt id).trans d2
        have c3 := (u1.cell g _ glt id).trans d3
        have glt1 : g < w1.heap.size := Nat.lt_of_lt_of_le glt u1.size
        have s1 := HU1.out.size
        clear d0 d1 d2 d3 glt u1 HHAS
        go_loopg [6, 7, 8] M (fun q nv pv kv wi => ∃ (k : Nat) (nx : List Lk) (put : Bool), k + q = M ∧ kv = .int .i64 k ∧ pv = .bool put ∧ Rw wi 31 4 nv nx.length (lkCells nx) ∧ Ins P (O.take k) nx put ∧ (∀ k, nv.ownBlock = some k → w1.heap.size ≤ k) ∧ Upd w1 wi (fun _ => False))
        case atStart => exact ⟨0, [], false, by omega, rfl, rfl, by simpa [lkCells] using Rw.nil _ _ _, Ins.nil _, fun k hk => (by cases hk), Upd.refl _ _⟩
        case round =>
          obtain ⟨k, nx, put, hk, rfl, rfl, hrn, hins, hno, hu2⟩ := hrel
          obtain ⟨na, nc, rfl, -⟩ := Rw.form hrn
          have hnl := hins.len
          rw [List.length_take] at hnl
          obtain ⟨Q, hQ⟩ : ∃ Q, nx.length = Q := ⟨_, rfl⟩
          rw [hQ] at hrn hnl hno ⊢
          have HQ := hide hQ
          have HRN := hide hrn
          have HINS := hide hins
          have HNO := hide hno
          have HU2 := hide hu2
          clear hrn hins hno hQ hu2
          by_cases hkM : k < M
          · obtain ⟨z, hz⟩ : ∃ x, O[k]? = some x := ⟨_, List.getElem?_eq_getElem (by rw [HM.out]; exact hkM)⟩
            have zok := HOOK.out z (List.mem_of_getElem? hz)
            obtain ⟨g2, off2, rfl, hg2, z0, z1, z2, z3⟩ := row_at HRA1.out k z hz hkM
            have hk0 : (0 : Int) ≤ (k : Int) := by omega
            have hk1 : (k : Int) < (M : Int) := by omega
            have HZT := hide (take_next' hz)
            have v0 := (HU2.out.cell g _ glt1 id).trans c0
            have v1 := (HU2.out.cell g _ glt1 id).trans c1
            have v2 := (HU2.out.cell g _ glt1 id).trans c2
            have v3 := (HU2.out.cell g _ glt1 id).trans c3
            have t0 := (HU2.out.cell g2 _ hg2 id).trans z0
            have t1 := (HU2.out.cell g2 _ hg2 id).trans z1
            have t2 := (HU2.out.cell g2 _ hg2 id).trans z2
            have t3 := (HU2.out.cell g2 _ hg2 id).trans z3
            have glt2 : g < wr.heap.size := Nat.lt_of_lt_of_le glt1 HU2.out.size
            have glz2 : g2 < wr.heap.size := Nat.lt_of_lt_of_le hg2 HU2.out.size
            have AH := fun w => Ahead_any w P z HPOK.out zok
            rw [HPP.out] at AH
            obtain ⟨Z, hZ⟩ : ∃ Z, Z = z := ⟨_, rfl⟩
            rw [← hZ] at HZT
            have HZZ := hide hZ
            clear hz zok
            obtain ⟨lt, hlt⟩ : ∃ q, decide (ltP P Z) = q := ⟨_, rfl⟩
            have hlt' : decide (ltP ⟨pb, ps, pc, pr⟩ z) = lt := by rw [← hlt, HPP.out, hZ]
            rw [hlt'] at AH
            have HLT := hide hlt
            clear hlt hlt' hZ
            obtain ⟨zb, zs, zc, zr⟩ := z
            unfold Lk.val at AH
            simp only at AH z0 z1 z2 z3 t0 t1 t2 t3
            have HAH := hide AH
            clear AH
            cases put with
            | true =>
              go_wp2_with fail
              go_still_tail 8, (by kernel_rfl)
              change wpList _ _ _ _ _ wr.drew
              go_wp2_with (first
                | (go_at_call 52; refine Calls.mono (HAH.out _) ?_; rintro e w3 ⟨rfl, u3⟩; have u3' : Upd wr w3 (fun _ => False) := ((Upd.refl wr _).drew).then u3 (fun _ _ => id); have HRN3 := hide (u3'.rw HRN.out (fun _ _ => id)); have HU3 := hide (HU2.out.then u3' (fun _ _ => id)); clear u3 u3' v0 v1 v2 v3 t0 t1 t2 t3; have x30 := (HU3.out.cell g _ glt1 id).trans c0; have x31 := (HU3.out.cell g _ glt1 id).trans c1; have x32 := (HU3.out.cell g _ glt1 id).trans c2; have x33 := (HU3.out.cell g _ glt1 id).trans c3; have y30 := (HU3.out.cell g2 _ hg2 id).trans z0; have y31 := (HU3.out.cell g2 _ hg2 id).trans z1; have y32 := (HU3.out.cell g2 _ hg2 id).trans z2; have y33 := (HU3.out.cell g2 _ hg2 id).trans z3; have gl3 : g < w3.heap.size := Nat.lt_of_lt_of_le glt1 HU3.out.size; have gz3 : g2 < w3.heap.size := Nat.lt_of_lt_of_le hg2 HU3.out.size; have HRX := hide (HRN3.out.alloc (.cells #[enS zb, enS zs, .int .i64 zc, .int .i64 zr] 31)))
                | (at_builtin; go_loud (refine wpList_append_rw _ rfl _ _ 60 60 rfl 31 _ iO _ 4 48 Try.underlying60 Try.underlying60 (by simp) hiO hO0 hO1 hO2 rfl _ _ _ rfl HRX.out _ 1 [enS zb, enS zs, .int .i64 zc, .int .i64 zr] rfl (Rw.src (Rw.made w3 #[enS zb, enS zs, .int .i64 zc, .int .i64 zr] 31 4 1 rfl)) rfl (by simp [Value.oneCell']) (by omega) (by omega) ?_); intro ga5 gc5 w5 hv' hg' hob'; have HV5 := hide hv'; have HG5 := hide hg'; have HB5 := hide hob'; have HU5 := hide ((HU3.out.alloc (.cells #[enS zb, enS zs, .int .i64 zc, .int .i64 zr] 31)).grown hg' (fun k e => .inl (HNO.out k e))); have HNO5 := hide (own_lo hob' HNO.out (by have := HU3.out.size; simp; omega)); clear hv' hg' hob'; ))
              go_roundg (gk - 1)
              case measure => omega
              case rel =>
                refine ⟨k + 1, nx ++ [⟨zb, zs, zc, zr⟩], true, by omega, by go_num, rfl, ?_, ?_, HNO5.out, HU5.out⟩
                · rw [lkCells_app, List.length_append, HQ.out]
                  simpa [lkCells, lkEnc] using HV5.out
                · have h := HINS.out.skip (z := Z) (.inl rfl)
                  rw [HZT.out]
                  rwa [← HZZ.out]
            | false =>
              cases lt with
              | false =>
                go_wp2_with fail
                go_still_tail 8, (by kernel_rfl)
                change wpList _ _ _ _ _ wr.drew
                go_wp2_with (first
                  | (go_at_call 52; refine Calls.mono (HAH.out _) ?_; rintro e w3 ⟨rfl, u3⟩; have u3' : Upd wr w3 (fun _ => False) := ((Upd.refl wr _).drew).then u3 (fun _ _ => id); have HRN3 := hide (u3'.rw HRN.out (fun _ _ => id)); have HU3 := hide (HU2.out.then u3' (fun _ _ => id)); clear u3 u3' v0 v1 v2 v3 t0 t1 t2 t3; have x30 := (HU3.out.cell g _ glt1 id).trans c0; have x31 := (HU3.out.cell g _ glt1 id).trans c1; have x32 := (HU3.out.cell g _ glt1 id).trans c2; have x33 := (HU3.out.cell g _ glt1 id).trans c3; have y30 := (HU3.out.cell g2 _ hg2 id).trans z0; have y31 := (HU3.out.cell g2 _ hg2 id).trans z1; have y32 := (HU3.out.cell g2 _ hg2 id).trans z2; have y33 := (HU3.out.cell g2 _ hg2 id).trans z3; have gl3 : g < w3.heap.size := Nat.lt_of_lt_of_le glt1 HU3.out.size; have gz3 : g2 < w3.heap.size := Nat.lt_of_lt_of_le hg2 HU3.out.size; have HRX := hide (HRN3.out.alloc (.cells #[enS zb, enS zs, .int .i64 zc, .int .i64 zr] 31)))
                  | (at_builtin; go_loud (refine wpList_append_rw _ rfl _ _ 60 60 rfl 31 _ iO _ 4 48 Try.underlying60 Try.underlying60 (by simp) hiO hO0 hO1 hO2 rfl _ _ _ rfl HRX.out _ 1 [enS zb, enS zs, .int .i64 zc, .int .i64 zr] rfl (Rw.src (Rw.made w3 #[enS zb, enS zs, .int .i64 zc, .int .i64 zr] 31 4 1 rfl)) rfl (by simp [Value.oneCell']) (by omega) (by omega) ?_); intro ga5 gc5 w5 hv' hg' hob'; have HV5 := hide hv'; have HG5 := hide hg'; have HB5 := hide hob'; have HU5 := hide ((HU3.out.alloc (.cells #[enS zb, enS zs, .int .i64 zc, .int .i64 zr] 31)).grown hg' (fun k e => .inl (HNO.out k e))); have HNO5 := hide (own_lo hob' HNO.out (by have := HU3.out.size; simp; omega)); clear hv' hg' hob'; ))
                go_roundg (gk - 1)
                case measure => omega
                case rel =>
                  refine ⟨k + 1, nx ++ [⟨zb, zs, zc, zr⟩], false, by omega, by go_num, rfl, ?_, ?_, HNO5.out, HU5.out⟩
                  · rw [lkCells_app, List.length_append, HQ.out]
                    simpa [lkCells, lkEnc] using HV5.out
                  · have h := HINS.out.skip (z := Z) (.inr (of_decide_eq_false HLT.out))
                    rw [HZT.out]
                    rwa [← HZZ.out]
              | true =>
                go_wp2_with fail
                go_still_tail 8, (by kernel_rfl)
                change wpList _ _ _ _ _ wr.drew
                go_wp2_with (first
                  | (go_at_call 52; refine Calls.mono (HAH.out _) ?_; rintro e w3 ⟨rfl, u3⟩; have u3' : Upd wr w3 (fun _ => False) := ((Upd.refl wr _).drew).then u3 (fun _ _ => id); have HRN3 := hide (u3'.rw HRN.out (fun _ _ => id)); have HU3 := hide (HU2.out.then u3' (fun _ _ => id)); clear u3 u3' v0 v1 v2 v3 t0 t1 t2 t3; have x30 := (HU3.out.cell g _ glt1 id).trans c0; have x31 := (HU3.out.cell g _ glt1 id).trans c1; have x32 := (HU3.out.cell g _ glt1 id).trans c2; have x33 := (HU3.out.cell g _ glt1 id).trans c3; have y30 := (HU3.out.cell g2 _ hg2 id).trans z0; have y31 := (HU3.out.cell g2 _ hg2 id).trans z1; have y32 := (HU3.out.cell g2 _ hg2 id).trans z2; have y33 := (HU3.out.cell g2 _ hg2 id).trans z3; have gl3 : g < w3.heap.size := Nat.lt_of_lt_of_le glt1 HU3.out.size; have gz3 : g2 < w3.heap.size := Nat.lt_of_lt_of_le hg2 HU3.out.size; have HRX := hide (HRN3.out.alloc (.cells #[enS pb, enS ps, .int .i64 pc, .int .i64 pr] 31)))
                  | (at_builtin; go_loud (refine wpList_append_rw _ rfl _ _ 60 60 rfl 31 _ iO _ 4 48 Try.underlying60 Try.underlying60 (by simp) hiO hO0 hO1 hO2 rfl _ _ _ rfl HRX.out _ 1 [enS pb, enS ps, .int .i64 pc, .int .i64 pr] rfl (Rw.src (Rw.made w3 #[enS pb, enS ps, .int .i64 pc, .int .i64 pr] 31 4 1 rfl)) rfl (by simp [Value.oneCell']) (by omega) (by omega) ?_); intro ga5 gc5 w5 hv' hg' hob'; have HV5 := hide hv'; have HG5 := hide hg'; have HB5 := hide hob'; have HU5 := hide ((HU3.out.alloc (.cells #[enS pb, enS ps, .int .i64 pc, .int .i64 pr] 31)).grown hg' (fun k e => .inl (HNO.out k e))); have HNO5 := hide (own_lo hob' HNO.out (by have := HU3.out.size; simp; omega)); clear hv' hg' hob'; have x50 := (HU5.out.cell g _ glt1 id).trans c0; have x51 := (HU5.out.cell g _ glt1 id).trans c1; have x52 := (HU5.out.cell g _ glt1 id).trans c2; have x53 := (HU5.out.cell g _ glt1 id).trans c3; have y50 := (HU5.out.cell g2 _ hg2 id).trans z0; have y51 := (HU5.out.cell g2 _ hg2 id).trans z1; have y52 := (HU5.out.cell g2 _ hg2 id).trans z2; have y53 := (HU5.out.cell g2 _ hg2 id).trans z3; have gl5 : g < w5.heap.size := Nat.lt_of_lt_of_le glt1 HU5.out.size; have gz5 : g2 < w5.heap.size := Nat.lt_of_lt_of_le hg2 HU5.out.size; have HRY := hide (HV5.out.alloc (.cells #[enS zb, enS zs, .int .i64 zc, .int .i64 zr] 31)))
                  | (at_builtin; go_loud (refine wpList_append_rw _ rfl _ _ 60 60 rfl 31 _ iO _ 4 48 Try.underlying60 Try.underlying60 (by simp) hiO hO0 hO1 hO2 rfl _ _ _ rfl HRY.out _ 1 [enS zb, enS zs, .int .i64 zc, .int .i64 zr] rfl (Rw.src (Rw.made w5 #[enS zb, enS zs, .int .i64 zc, .int .i64 zr] 31 4 1 rfl)) rfl (by simp [Value.oneCell']) (by omega) (by omega) ?_); intro ga6 gc6 w6 hv' hg' hob'; have HV6 := hide hv'; have HG6 := hide hg'; have HB6 := hide hob'; have HU6 := hide ((HU5.out.alloc (.cells #[enS zb, enS zs, .int .i64 zc, .int .i64 zr] 31)).grown hg' (fun k e => .inl (HNO5.out k e))); have HNO6 := hide (own_lo hob' HNO5.out (by have := HU5.out.size; simp; omega)); clear hv' hg' hob'; ))
                go_roundg (gk - 1)
                case measure => omega
                case rel =>
                  refine ⟨k + 1, (nx ++ [⟨pb, ps, pc, pr⟩]) ++ [⟨zb, zs, zc, zr⟩], true, by omega, by go_num, rfl, ?_, ?_, HNO6.out, HU6.out⟩
                  · rw [lkCells_app, lkCells_app, List.length_append, List.length_append, HQ.out]
                    simpa [lkCells, lkEnc] using HV6.out
                  · have h := HINS.out.put (z := Z) (of_decide_eq_true HLT.out)
                    rw [HZT.out]
                    rwa [← HZZ.out, ← HPP.out]
          · have hkM' : ¬ (k : Int) < (M : Int) := by omega
            have htk : O.take k = O := List.take_of_length_le (by rw [HM.out]; omega)
            have hins := HINS.out
            rw [htk] at hins
            have hnp : P ∉ O := HIN.out
            have HF := hide (hins.fin HPW.out hnp)
            have HL := hide (hins.len)
            have HL0 := hide (fun e : put = false => (e ▸ hins : Ins P O nx false).len0)
            clear hins hnp htk
            cases put with
            | true =>
              go_wp2_with fail
              go_roundg (gi - 1)
              case measure => have := hgi'.out; omega
              case rel =>
                obtain ⟨f1, f2⟩ := HF.out.1 (by first | rfl | trivial)
                refine ⟨i + 1, nx, by omega, by go_num, ?_, f1, fun x => ?_, ?_, ?_, HU1.out.then HU2.out (fun _ _ => id)⟩
                · have := HRN.out
                  rwa [HQ.out]
                · rw [f2, HTK.out, List.mem_append, HMEM.out]
                  simp
                · have := HL.out
                  have := HM.out
                  omega
                · intro k hk
                  have := HNO.out k hk
                  omega
            | false =>
              have v0 := (HU2.out.cell g _ glt1 id).trans c0
              have v1 := (HU2.out.cell g _ glt1 id).trans c1
              have v2 := (HU2.out.cell g _ glt1 id).trans c2
              have v3 := (HU2.out.cell g _ glt1 id).trans c3
              have glt2 : g < wr.heap.size := Nat.lt_of_lt_of_le glt1 HU2.out.size
              have HRX := hide (HRN.out.alloc (.cells #[enS pb, enS ps, .int .i64 pc, .int .i64 pr] 31))
              go_wp2_with (at_builtin; go_loud (refine wpList_append_rw _ rfl _ _ 60 60 rfl 31 _ iO _ 4 48 Try.underlying60 Try.underlying60 (by simp) hiO hO0 hO1 hO2 rfl _ _ _ rfl HRX.out _ 1 [enS pb, enS ps, .int .i64 pc, .int .i64 pr] rfl (Rw.src (Rw.made wr #[enS pb, enS ps, .int .i64 pc, .int .i64 pr] 31 4 1 rfl)) rfl (by simp [Value.oneCell']) (by omega) (by omega) ?_); intro ga5 gc5 w5 hv' hg' hob'; have HV5 := hide hv'; have HG5 := hide hg'; have HB5 := hide hob'; have HU5 := hide ((HU2.out.alloc (.cells #[enS pb, enS ps, .int .i64 pc, .int .i64 pr] 31)).grown hg' (fun k e => .inl (HNO.out k e))); have HNO5 := hide (own_lo hob' HNO.out (by have := HU2.out.size; simp; omega)); clear hv' hg' hob'; )
              go_roundg (gi - 1)
              case measure => have := hgi'.out; omega
              case rel =>
                obtain ⟨f1, f2⟩ := HF.out.2 (by first | rfl | trivial)
                rw [HPP.out] at f1 f2
                refine ⟨i + 1, nx ++ [⟨pb, ps, pc, pr⟩], by omega, by go_num, ?_, f1, fun x => ?_, ?_, ?_, HU1.out.then HU5.out (fun _ _ => id)⟩
                · rw [lkCells_app, List.length_append, HQ.out]
                  simpa [lkCells, lkEnc] using HV5.out
                · rw [f2, HTK.out, List.mem_append, HMEM.out, HPP.out]
                  simp
                · have := HL0.out (by first | rfl | trivial)
                  have := HM.out
                  rw [List.length_append]
                  simp
                  omega
                · intro k hk
                  have := HNO5.out k hk
                  omega
    · have hi1 : ¬ (i : Int) < (N : Int) := by omega
      have htk : L.take i = L := List.take_of_length_le (by rw [HN.out]; omega)
      rw [htk] at hmem
      obtain ⟨M, hM⟩ : ∃ M, O.length = M := ⟨_, rfl⟩
      have HM := hide hM
      have HRA := hide hra
      have HPW := hide hpw
      have HMEM := hide hmem
      have HOWN := hide hown
      have HU := hide hu
      rw [hM]
      clear hra hpw hmem hown hu hM htk
      go_wp2_with fail
      go_ret
      exact ⟨oa, oc, O, by rw [HM.out]; rfl, by rw [HM.out]; exact HM.out ▸ HRA.out, HPW.out, HMEM.out, by have := HM.out; omega, by rw [HM.out]; exact HM.out ▸ HOWN.out, HU.out⟩
end Go.Proofs.Ytcclkfkdafmemaa

