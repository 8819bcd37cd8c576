/- The book: all that was handed out is as it was noted. Condition: the kind's pieces stand in memory. -/
import Derived.Deep.RegionHeld3
import Derived.Test.YtpknnamficegbaaGreatDoorCBookX
import Derived.Test.YtpknnamficegbaaGreatDoorCBookG
set_option linter.unusedVariables false
set_option linter.unusedSimpArgs false
set_option linter.unusedSectionVars false
set_option linter.unnecessarySimpa false
namespace Go.Proofs.YtpknnamficegbaaGreatDoor
open Go.RowKit

set_option maxRecDepth 100000 in
set_option maxHeartbeats 4000000 in
theorem bkhold_Ints {base kb : Nat} {turn deep : Int} {a b : Hv} {k : Kn} {RR : List Pc} {w : World} (H : Star base (hdrPc kb turn deep a b :: (kin base 3 29 1 a k ++ RR)) w) (gk : k.Good a.s) (fs : k.fs = []) :
    Calls Tryz.prog 42 #[.pointer (some ⟨kb, 0, none⟩)] w fun e w' => e = .returned (.bool true) ∧ Only [] w w' := by
  obtain ⟨ps, es, fs0, St, rs⟩ := k
  simp only at fs
  subst fs
  rw [kin_eq] at H
  obtain ⟨jo, jt, jw, jn, jf, jm, jd, jr, sn⟩ := a
  obtain ⟨m, hml⟩ : ∃ q, es.length = q := ⟨_, rfl⟩
  obtain ⟨p, hpl⟩ : ∃ q, ps.length = q := ⟨_, rfl⟩
  have hfew := gk.few
  simp only [List.length_nil, hml, hpl, List.append_nil] at hfew H
  have hsn : sn ≤ 1000 := gk.seen
  have hm1 : m ≤ 1000 := by omega
  have hp1 : p ≤ 2000 := by omega
  have hmem : MemOk base 3 1 es St rs w := H.get 9 rfl
  have HH := Lib.hid (show RowV w kb 103 (hdrF turn deep ⟨jo, jt, jw, jn, jf, jm, jd, jr, sn⟩ b) 41 from H.get 0 rfl)
  have Ho := Lib.hid (show w.ownsRow base 29 1 jo p (ps.map Prod.fst) from H.get 1 rfl)
  have Ht := Lib.hid (show w.ownsRow base 29 1 jt p (ps.map Prod.snd) from H.get 2 rfl)
  have Hw := Lib.hid (show w.ownsRow base 29 1 jw m (es.map Ent.v) from H.get 3 rfl)
  have Hn := Lib.hid (show w.ownsRow base 29 1 jn m (es.map Ent.note) from H.get 4 rfl)
  have HPA := Lib.hid (show ∀ i, i < p → ∃ va vb n XL, (ps.map Prod.fst)[i]? = some va ∧ (ps.map Prod.snd)[i]? = some vb ∧ (⟨va, n, XL⟩ : Rdr).At St 1 w ∧ (⟨vb, n, XL⟩ : Rdr).At St 1 w from fun i hi => by
    obtain ⟨pr, hpr⟩ : ∃ pr, ps[i]? = some pr := ⟨_, List.getElem?_eq_getElem (by omega)⟩
    rcases gk.pair pr (List.mem_of_getElem? hpr) with ⟨n, XL, h1, h2⟩ | ⟨x, hx, _⟩
    · exact ⟨_, _, n, XL, by rw [List.getElem?_map, hpr]; rfl, by rw [List.getElem?_map, hpr]; rfl, hmem.rd _ h1, hmem.rd _ h2⟩
    · cases hx)
  have HEA := Lib.hid (show ∀ i, i < m → ∃ va vb n XL, (es.map Ent.v)[i]? = some va ∧ (es.map Ent.note)[i]? = some vb ∧ (∃ Sx, (⟨va, n, XL⟩ : Rdr).At Sx 1 w ∧ (⟨vb, n, XL⟩ : Rdr).At Sx 1 w) from fun i hi => by
    obtain ⟨x, hx⟩ : ∃ x, es[i]? = some x := ⟨_, List.getElem?_eq_getElem (by omega)⟩
    have hxm := List.mem_of_getElem? hx
    have h1 := rdr_own (hmem.own x hxm) (by have := (gk.mark x (by simp [hxm])).2.2; omega)
    have h2 := hmem.rd _ (gk.wait x hxm)
    exact ⟨_, _, x.n, x.L, by rw [List.getElem?_map, hx]; rfl, by rw [List.getElem?_map, hx]; rfl, x.v.ownBlock.toList ++ St, h1.more (fun b hb => List.mem_append.2 (Or.inl hb)), h2.more (fun b hb => List.mem_append.2 (Or.inr hb))⟩)
  obtain ⟨od, oc, rfl⟩ := own_slice_any Ho.out
  obtain ⟨wd, wcp, rfl⟩ := own_slice_any Hw.out
  have HC : Hid (∀ W, Only [] w W → W.cell? ⟨kb, 4, none⟩ = some (.slice od p oc) ∧ W.cell? ⟨kb, 6, none⟩ = some (.slice wd m wcp)) := Lib.hid (fun W o => ⟨keep_cell o (HH.out.cell (j := 4) (by omega)), keep_cell o (HH.out.cell (j := 6) (by omega))⟩)
  clear H hmem gk hfew hml hpl
  go_enter Tryz.func42, Tryz.ntmps42
  go_wp2_with fail
  go_loopg [3] p (fun gk s W => ∃ i : Nat, i + gk = p ∧ s = .int .i64 i ∧ Only [] w W)
  case atStart => exact ⟨0, by omega, rfl, Only.refl _ _⟩
  case round =>
    obtain ⟨i, hi, rfl, hO⟩ := hrel
    have HI := Lib.hid hi
    have HO := Lib.hid hO
    by_cases hlt : i < p
    · obtain ⟨ga, ca, ea, ka⟩ := own_at Ho.out (by omega)
      cases ea
      obtain ⟨gb, cb, rfl, kb'⟩ := own_at Ht.out (by omega)
      obtain ⟨va, vb, n, XL, hva, hvb, hra, hrb⟩ := HPA.out i hlt
      have e1 := ka i va hva
      have e2 := kb' i vb hvb
      have HSM := Lib.hid (fun W (o : Only [] w W) => bk_same_ints_o (hra.only o (by simp)) (hrb.only o (by simp)))
      have HK : Hid (∀ W, Only [] w W → W.cell? ⟨kb, 4, none⟩ = some (.slice (some ⟨ga, 0, none⟩) p oc) ∧ W.cell? ⟨ga, i, none⟩ = some va ∧ W.cell? ⟨kb, 5, none⟩ = some (.slice (some ⟨gb, 0, none⟩) p cb) ∧ W.cell? ⟨gb, i, none⟩ = some vb) := Lib.hid (fun W o => ⟨keep_cell o (HH.out.cell (j := 4) (by omega)), keep_cell o e1, keep_cell o (HH.out.cell (j := 5) (by omega)), keep_cell o e2⟩)
      obtain ⟨k1, k2, k3, k4⟩ := HK.out wr hO
      have hii : (i : Int) < p := by omega
      have hi0' : (0 : Int) ≤ i := by omega
      have o0 : Only [] w wr.drew := hO.trans (Only.drew [] wr)
      clear ka kb' hva hvb hra hrb e1 e2 hO hi
      go_upto_region 4 with fail
      go_region_held3 (fun W => W.cell? ⟨kb, 4, none⟩ = some (.slice (some ⟨ga, 0, none⟩) p oc) ∧ W.cell? ⟨ga, i, none⟩ = some va ∧ W.cell? ⟨kb, 5, none⟩ = some (.slice (some ⟨gb, 0, none⟩) p cb) ∧ W.cell? ⟨gb, i, none⟩ = some vb)
        (first | with_reducible exact HK.out _ o0 | with_reducible exact HK.out _ o1)
        (first | (go_at_call 93; refine (HSM.out wr.drew o0).mono ?_; rintro e w1 ⟨rfl, hX⟩; have o1 := o0.trans hX))
      have HO9 := Lib.hid o1
      clear o0 o1 hX k1 k2 k3 k4
      go_wp2_with fail
      go_roundg (p - (i + 1))
      case measure => have := HI.out; omega
      case rel => exact ⟨i + 1, by have := HI.out; omega, by go_num, HO9.out⟩
    · have him : i = p := by omega
      subst him
      have cc := (HC.out wr hO).1
      have HO1 := Lib.hid hO
      clear hO hi hlt HO
      go_wp2_with fail
      clear cc
      go_loopg [4] m (fun gk s W => ∃ j : Nat, j + gk = m ∧ s = .int .i64 j ∧ Only [] w W)
      case atStart => exact ⟨0, by omega, rfl, HO1.out⟩
      case round =>
        obtain ⟨i, hi, rfl, hO⟩ := hrel
        have HI := Lib.hid hi
        have HO := Lib.hid hO
        by_cases hlt : i < m
        · obtain ⟨ga, ca, ea, ka⟩ := own_at Hw.out (by omega)
          cases ea
          obtain ⟨gb, cb, rfl, kb'⟩ := own_at Hn.out (by omega)
          obtain ⟨va, vb, n, XL, hva, hvb, Sx, hra, hrb⟩ := HEA.out i hlt
          have e1 := ka i va hva
          have e2 := kb' i vb hvb
          have HSM := Lib.hid (fun W (o : Only [] w W) => bk_same_ints_o (hra.only o (by simp)) (hrb.only o (by simp)))
          have HK : Hid (∀ W, Only [] w W → W.cell? ⟨kb, 6, none⟩ = some (.slice (some ⟨ga, 0, none⟩) m wcp) ∧ W.cell? ⟨ga, i, none⟩ = some va ∧ W.cell? ⟨kb, 7, none⟩ = some (.slice (some ⟨gb, 0, none⟩) m cb) ∧ W.cell? ⟨gb, i, none⟩ = some vb) := Lib.hid (fun W o => ⟨keep_cell o (HH.out.cell (j := 6) (by omega)), keep_cell o e1, keep_cell o (HH.out.cell (j := 7) (by omega)), keep_cell o e2⟩)
          obtain ⟨k1, k2, k3, k4⟩ := HK.out wr hO
          have hii : (i : Int) < m := by omega
          have hi0' : (0 : Int) ≤ i := by omega
          have o0 : Only [] w wr.drew := hO.trans (Only.drew [] wr)
          clear ka kb' hva hvb hra hrb e1 e2 hO hi
          go_upto_region 9 with fail
          go_region_held3 (fun W => W.cell? ⟨kb, 6, none⟩ = some (.slice (some ⟨ga, 0, none⟩) m wcp) ∧ W.cell? ⟨ga, i, none⟩ = some va ∧ W.cell? ⟨kb, 7, none⟩ = some (.slice (some ⟨gb, 0, none⟩) m cb) ∧ W.cell? ⟨gb, i, none⟩ = some vb)
            (first | with_reducible exact HK.out _ o0 | with_reducible exact HK.out _ o1)
            (first | (go_at_call 93; refine (HSM.out wr.drew o0).mono ?_; rintro e w1 ⟨rfl, hX⟩; have o1 := o0.trans hX))
          have HO9 := Lib.hid o1
          clear o0 o1 hX k1 k2 k3 k4
          go_wp2_with fail
          go_roundg (m - (i + 1))
          case measure => have := HI.out; omega
          case rel => exact ⟨i + 1, by have := HI.out; omega, by go_num, HO9.out⟩
        · have him : i = m := by omega
          subst him
          have cc := (HC.out wr hO).2
          have HO2 := Lib.hid hO
          clear hO hi hlt HO
          go_wp2_with fail
          go_ret
          exact ⟨rfl, HO2.out⟩

set_option maxRecDepth 100000 in
set_option maxHeartbeats 4000000 in
theorem bkhold_Slots {base kb : Nat} {turn deep : Int} {a b : Hv} {k : Kn} {RR : List Pc} {w : World} (H : Star base (hdrPc kb turn deep a b :: (kin base 64 58 7 b k ++ RR)) w) (gk : k.Good b.s) (fs : k.fs = []) :
    Calls Tryz.prog 45 #[.pointer (some ⟨kb, 0, none⟩)] w fun e w' => e = .returned (.bool true) ∧ Only [] w w' := by
  obtain ⟨ps, es, fs0, St, rs⟩ := k
  simp only at fs
  subst fs
  rw [kin_eq] at H
  obtain ⟨jo, jt, jw, jn, jf, jm, jd, jr, sn⟩ := b
  obtain ⟨m, hml⟩ : ∃ q, es.length = q := ⟨_, rfl⟩
  obtain ⟨p, hpl⟩ : ∃ q, ps.length = q := ⟨_, rfl⟩
  have hfew := gk.few
  simp only [List.length_nil, hml, hpl, List.append_nil] at hfew H
  have hsn : sn ≤ 1000 := gk.seen
  have hm1 : m ≤ 1000 := by omega
  have hp1 : p ≤ 2000 := by omega
  have hmem : MemOk base 64 7 es St rs w := H.get 9 rfl
  have HH := Lib.hid (show RowV w kb 103 (hdrF turn deep a ⟨jo, jt, jw, jn, jf, jm, jd, jr, sn⟩) 41 from H.get 0 rfl)
  have Ho := Lib.hid (show w.ownsRow base 58 1 jo p (ps.map Prod.fst) from H.get 1 rfl)
  have Ht := Lib.hid (show w.ownsRow base 58 1 jt p (ps.map Prod.snd) from H.get 2 rfl)
  have Hw := Lib.hid (show w.ownsRow base 58 1 jw m (es.map Ent.v) from H.get 3 rfl)
  have Hn := Lib.hid (show w.ownsRow base 58 1 jn m (es.map Ent.note) from H.get 4 rfl)
  have HPA := Lib.hid (show ∀ i, i < p → ∃ va vb n XL, (ps.map Prod.fst)[i]? = some va ∧ (ps.map Prod.snd)[i]? = some vb ∧ (⟨va, n, XL⟩ : Rdr).At St 7 w ∧ (⟨vb, n, XL⟩ : Rdr).At St 7 w from fun i hi => by
    obtain ⟨pr, hpr⟩ : ∃ pr, ps[i]? = some pr := ⟨_, List.getElem?_eq_getElem (by omega)⟩
    rcases gk.pair pr (List.mem_of_getElem? hpr) with ⟨n, XL, h1, h2⟩ | ⟨x, hx, _⟩
    · exact ⟨_, _, n, XL, by rw [List.getElem?_map, hpr]; rfl, by rw [List.getElem?_map, hpr]; rfl, hmem.rd _ h1, hmem.rd _ h2⟩
    · cases hx)
  have HEA := Lib.hid (show ∀ i, i < m → ∃ va vb n XL, (es.map Ent.v)[i]? = some va ∧ (es.map Ent.note)[i]? = some vb ∧ (∃ Sx, (⟨va, n, XL⟩ : Rdr).At Sx 7 w ∧ (⟨vb, n, XL⟩ : Rdr).At Sx 7 w) from fun i hi => by
    obtain ⟨x, hx⟩ : ∃ x, es[i]? = some x := ⟨_, List.getElem?_eq_getElem (by omega)⟩
    have hxm := List.mem_of_getElem? hx
    have h1 := rdr_own (hmem.own x hxm) (by have := (gk.mark x (by simp [hxm])).2.2; omega)
    have h2 := hmem.rd _ (gk.wait x hxm)
    exact ⟨_, _, x.n, x.L, by rw [List.getElem?_map, hx]; rfl, by rw [List.getElem?_map, hx]; rfl, x.v.ownBlock.toList ++ St, h1.more (fun b hb => List.mem_append.2 (Or.inl hb)), h2.more (fun b hb => List.mem_append.2 (Or.inr hb))⟩)
  obtain ⟨od, oc, rfl⟩ := own_slice_any Ho.out
  obtain ⟨wd, wcp, rfl⟩ := own_slice_any Hw.out
  have HC : Hid (∀ W, Only [] w W → W.cell? ⟨kb, 31, none⟩ = some (.slice od p oc) ∧ W.cell? ⟨kb, 33, none⟩ = some (.slice wd m wcp)) := Lib.hid (fun W o => ⟨keep_cell o (HH.out.cell (j := 31) (by omega)), keep_cell o (HH.out.cell (j := 33) (by omega))⟩)
  clear H hmem gk hfew hml hpl
  go_enter Tryz.func45, Tryz.ntmps45
  go_wp2_with fail
  go_loopg [3] p (fun gk s W => ∃ i : Nat, i + gk = p ∧ s = .int .i64 i ∧ Only [] w W)
  case atStart => exact ⟨0, by omega, rfl, Only.refl _ _⟩
  case round =>
    obtain ⟨i, hi, rfl, hO⟩ := hrel
    have HI := Lib.hid hi
    have HO := Lib.hid hO
    by_cases hlt : i < p
    · obtain ⟨ga, ca, ea, ka⟩ := own_at Ho.out (by omega)
      cases ea
      obtain ⟨gb, cb, rfl, kb'⟩ := own_at Ht.out (by omega)
      obtain ⟨va, vb, n, XL, hva, hvb, hra, hrb⟩ := HPA.out i hlt
      have e1 := ka i va hva
      have e2 := kb' i vb hvb
      have HSM := Lib.hid (fun W (o : Only [] w W) => bk_same_slots (hra.only o (by simp)) (hrb.only o (by simp)))
      have HK : Hid (∀ W, Only [] w W → W.cell? ⟨kb, 31, none⟩ = some (.slice (some ⟨ga, 0, none⟩) p oc) ∧ W.cell? ⟨ga, i, none⟩ = some va ∧ W.cell? ⟨kb, 32, none⟩ = some (.slice (some ⟨gb, 0, none⟩) p cb) ∧ W.cell? ⟨gb, i, none⟩ = some vb) := Lib.hid (fun W o => ⟨keep_cell o (HH.out.cell (j := 31) (by omega)), keep_cell o e1, keep_cell o (HH.out.cell (j := 32) (by omega)), keep_cell o e2⟩)
      obtain ⟨k1, k2, k3, k4⟩ := HK.out wr hO
      have hii : (i : Int) < p := by omega
      have hi0' : (0 : Int) ≤ i := by omega
      have o0 : Only [] w wr.drew := hO.trans (Only.drew [] wr)
      clear ka kb' hva hvb hra hrb e1 e2 hO hi
      go_upto_region 4 with fail
      go_region_held3 (fun W => W.cell? ⟨kb, 31, none⟩ = some (.slice (some ⟨ga, 0, none⟩) p oc) ∧ W.cell? ⟨ga, i, none⟩ = some va ∧ W.cell? ⟨kb, 32, none⟩ = some (.slice (some ⟨gb, 0, none⟩) p cb) ∧ W.cell? ⟨gb, i, none⟩ = some vb)
        (first | with_reducible exact HK.out _ o0 | with_reducible exact HK.out _ o1)
        (first | (go_at_call 96; refine (HSM.out wr.drew o0).mono ?_; rintro e w1 ⟨rfl, hX⟩; have o1 := o0.trans hX))
      have HO9 := Lib.hid o1
      clear o0 o1 hX k1 k2 k3 k4
      go_wp2_with fail
      go_roundg (p - (i + 1))
      case measure => have := HI.out; omega
      case rel => exact ⟨i + 1, by have := HI.out; omega, by go_num, HO9.out⟩
    · have him : i = p := by omega
      subst him
      have cc := (HC.out wr hO).1
      have HO1 := Lib.hid hO
      clear hO hi hlt HO
      go_wp2_with fail
      clear cc
      go_loopg [4] m (fun gk s W => ∃ j : Nat, j + gk = m ∧ s = .int .i64 j ∧ Only [] w W)
      case atStart => exact ⟨0, by omega, rfl, HO1.out⟩
      case round =>
        obtain ⟨i, hi, rfl, hO⟩ := hrel
        have HI := Lib.hid hi
        have HO := Lib.hid hO
        by_cases hlt : i < m
        · obtain ⟨ga, ca, ea, ka⟩ := own_at Hw.out (by omega)
          cases ea
          obtain ⟨gb, cb, rfl, kb'⟩ := own_at Hn.out (by omega)
          obtain ⟨va, vb, n, XL, hva, hvb, Sx, hra, hrb⟩ := HEA.out i hlt
          have e1 := ka i va hva
          have e2 := kb' i vb hvb
          have HSM := Lib.hid (fun W (o : Only [] w W) => bk_same_slots (hra.only o (by simp)) (hrb.only o (by simp)))
          have HK : Hid (∀ W, Only [] w W → W.cell? ⟨kb, 33, none⟩ = some (.slice (some ⟨ga, 0, none⟩) m wcp) ∧ W.cell? ⟨ga, i, none⟩ = some va ∧ W.cell? ⟨kb, 34, none⟩ = some (.slice (some ⟨gb, 0, none⟩) m cb) ∧ W.cell? ⟨gb, i, none⟩ = some vb) := Lib.hid (fun W o => ⟨keep_cell o (HH.out.cell (j := 33) (by omega)), keep_cell o e1, keep_cell o (HH.out.cell (j := 34) (by omega)), keep_cell o e2⟩)
          obtain ⟨k1, k2, k3, k4⟩ := HK.out wr hO
          have hii : (i : Int) < m := by omega
          have hi0' : (0 : Int) ≤ i := by omega
          have o0 : Only [] w wr.drew := hO.trans (Only.drew [] wr)
          clear ka kb' hva hvb hra hrb e1 e2 hO hi
          go_upto_region 9 with fail
          go_region_held3 (fun W => W.cell? ⟨kb, 33, none⟩ = some (.slice (some ⟨ga, 0, none⟩) m wcp) ∧ W.cell? ⟨ga, i, none⟩ = some va ∧ W.cell? ⟨kb, 34, none⟩ = some (.slice (some ⟨gb, 0, none⟩) m cb) ∧ W.cell? ⟨gb, i, none⟩ = some vb)
            (first | with_reducible exact HK.out _ o0 | with_reducible exact HK.out _ o1)
            (first | (go_at_call 96; refine (HSM.out wr.drew o0).mono ?_; rintro e w1 ⟨rfl, hX⟩; have o1 := o0.trans hX))
          have HO9 := Lib.hid o1
          clear o0 o1 hX k1 k2 k3 k4
          go_wp2_with fail
          go_roundg (m - (i + 1))
          case measure => have := HI.out; omega
          case rel => exact ⟨i + 1, by have := HI.out; omega, by go_num, HO9.out⟩
        · have him : i = m := by omega
          subst him
          have cc := (HC.out wr hO).2
          have HO2 := Lib.hid hO
          clear hO hi hlt HO
          go_wp2_with fail
          go_ret
          exact ⟨rfl, HO2.out⟩

end Go.Proofs.YtpknnamficegbaaGreatDoor

