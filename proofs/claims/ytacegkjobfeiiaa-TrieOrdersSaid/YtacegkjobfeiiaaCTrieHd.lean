/- TrieOrders walked: the keys found, put in two orders, taken out in two orders, told. Conditions: the pairs and the keys to drop stand in memory. -/
import Derived.Test.YtacegkjobfeiiaaCVersX
import Derived.Test.YtacegkjobfeiiaaCOrdX
import Derived.Test.YtacegkjobfeiiaaCTrieGf
set_option linter.unusedVariables false
set_option linter.unusedSimpArgs false
set_option linter.unusedSectionVars false
set_option linter.unnecessarySimpa false
namespace Go.Proofs.Ytacegkjobfeiiaa
open Go.RowKit

/-- The pairs' cells. -/
def PrsIn (w : World) (b o len : Nat) (O : Nat → KV) : Prop := ∀ i, i < len → w.cell? ⟨b, o + i * 2, none⟩ = some (.int .i64 (O i).1) ∧ w.cell? ⟨b, o + i * 2 + 1, none⟩ = some (.int .i64 (O i).2)

/-- The keys' cells. -/
def KeysIn (w : World) (b o : Nat) (D : List Int) : Prop := ∀ i k, D[i]? = some k → w.cell? ⟨b, o + i, none⟩ = some (.int .i64 k)

theorem cell_lt {w : World} {b o : Nat} {u : Value} (h : w.cell? ⟨b, o, none⟩ = some u) : b < w.heap.size := by
  rcases Nat.lt_or_ge b w.heap.size with hl | hl
  · exact hl
  · simp [World.cell?, Array.getElem?_eq_none hl] at h

theorem place_or (a : Int) (n : Nat) (hn2 : n ≤ 1000) : ∃ j : Nat, 1 ≤ n → j < n ∧ -(1000 : Int) < a.tmod n ∧ a.tmod n < 1000 ∧ (a.tmod n + n).tmod n = j := by
  by_cases h : 1 ≤ n
  · obtain ⟨j, hj⟩ := place_of a n h hn2
    exact ⟨j, fun _ => hj⟩
  · exact ⟨0, fun h1 => absurd h1 h⟩

theorem two_new2 (w : World) (a b : Array Value) (ta tb : TypeId) :
    Blk ((w.alloc (.cells a ta)).alloc (.cells b tb)).drew w.heap.size a ta ∧ Blk ((w.alloc (.cells a ta)).alloc (.cells b tb)).drew (w.heap.size + 1) b tb ∧ Only [] w ((w.alloc (.cells a ta)).alloc (.cells b tb)).drew := by
  refine ⟨((Blk.new w a ta).alloc _).drew, ?_, ((Only.alloc [] w _).trans (Only.alloc [] _ _)).trans (Only.drew _ _)⟩
  have := (Blk.new (w.alloc (.cells a ta)) b tb).drew
  simpa using this

/-- The keys and the row made of them, where they stand. -/
structure KAt (w1 : World) (K : List KV) (i : Nat) (s7 s8 : Value) (w : World) : Prop where
  keys : Keys K i
  own : w.ownsRow w1.heap.size 56 2 s8 K.length (prsC K)
  is : ∃ g7 a7 c7, s7 = .slice a7 (bag K).length c7 ∧ RowP w g7 a7 c7 (bag K) ∧ (bag K ≠ [] → g7 < w.heap.size ∧ w1.heap.size ≤ g7 ∧ s8.ownBlock ≠ some g7)

set_option maxRecDepth 100000 in
set_option maxHeartbeats 16000000 in
theorem orders_core {len lb lo cap len2 lb2 lo2 cap2 : Nat} {O : Nat → KV} {D : List Int} {by0 : Int} (hlen : len ≤ 100) (hlen2 : len2 ≤ 100) (hD2 : D.length = len2) (w : World) (hO : PrsIn w lb lo len O) {ad : Option Addr} (had : 0 < len → ad = some ⟨lb, lo, none⟩) (hD : KeysIn w lb2 lo2 D) {ad2 : Option Addr} (had2 : 0 < len2 → ad2 = some ⟨lb2, lo2, none⟩) :
    Calls Try.prog 5 #[.slice ad len cap, .slice ad2 len2 cap2, .int .i64 by0] w fun e w' => e = .returned (.bool true) ∧ Only [] w w' := by
  have HO := Lib.hid hO
  have HAD := Lib.hid had
  have HD := Lib.hid hD
  have HAD2 := Lib.hid had2
  have HDL := Lib.hid hD2
  clear hO had hD had2 hD2
  have hli : (len : Int) ≤ 100 := by omega
  have hli2 : (len2 : Int) ≤ 100 := by omega
  go_enter Try.func5, Try.ntmps5
  go_wp2_with fail
  refine (tr_known w).mono ?_
  rintro e w1 ⟨rfl, hX1⟩
  have HX1 := Lib.hid hX1
  clear hX1
  obtain ⟨info0, hi0, hz0, hz1, hz2⟩ := info_parts info_pair
  have HI0 := Lib.hid (And.intro hi0 (And.intro hz0 (And.intro hz1 hz2)))
  clear hi0 hz0 hz1 hz2
  go_wp2_with fail
  go_loopg [7, 8, 9] len (fun gk s7 s8 s9 wr => ∃ (i : Nat) (K : List KV), i + gk = len ∧ s9 = .int .i64 (i : Nat) ∧ KAt w1 K i s7 s8 wr ∧ Only [] w1 wr)
  case atStart => exact ⟨0, [], by omega, rfl, ⟨⟨List.Pairwise.nil, fun x hx => by simp at hx, Nat.le_refl _⟩, World.ownsRow_nil _ _ _ _, 0, none, 0, rfl, ⟨Or.inl ⟨rfl, rfl⟩, Nat.le_refl _, fun j u hu => by simp [bag, prsC] at hu⟩, fun h => absurd rfl h⟩, Only.refl _ _⟩
  case round =>
    obtain ⟨i, K, hi, rfl, hK, hXr⟩ := hrel
    obtain ⟨hKK, hown, g7, a7, c7, rfl, hR7, hg7⟩ := hK
    have HI := Lib.hid hi
    have HKK := Lib.hid hKK
    have HOWN := Lib.hid hown
    have HR7 := Lib.hid hR7
    have HG7 := Lib.hid hg7
    have HXR := Lib.hid hXr
    have hbl : (bag K).length ≤ 100 := by have := bag_le K; have := hKK.few; omega
    have hkl : K.length ≤ 100 := by have := hKK.few; omega
    by_cases hlt : i < len
    --ARM1
    · obtain rfl := HAD.out (by omega)
      obtain ⟨l0, l1⟩ := HO.out i hlt
      have hlb := cell_lt l0
      have hXw := HX1.out.trans hXr
      have l0 := keep_cell hXw l0
      have l1 := keep_cell hXw l1
      obtain ⟨xk, hxk⟩ : ∃ u, (O i).1 = u := ⟨_, rfl⟩
      obtain ⟨xv, hxv⟩ : ∃ u, (O i).2 = u := ⟨_, rfl⟩
      rw [hxk] at l0
      rw [hxv] at l1
      have HVL := Lib.hid (law_value (k := xk) hR7 (by omega))
      have HWI := Lib.hid (fun W (o : Only [] wr W) => law_with (k := xk) (u := xv) (hR7.only o (by simp)) (by omega))
      have hat := valL_has (bag K) xk
      obtain ⟨vh, hvh⟩ : ∃ u, (valL (bag K) xk).2 = u := ⟨_, rfl⟩
      obtain ⟨vv, hvv⟩ : ∃ u, (valL (bag K) xk).1 = u := ⟨_, rfl⟩
      rw [hvh] at HVL hat
      rw [hvv] at HVL
      have HAT := Lib.hid hat
      obtain ⟨bl, hbl2⟩ : ∃ u, (bag K).length = u := ⟨_, rfl⟩
      have hcb : bl ≤ c7 := by rw [← hbl2]; exact hR7.fits
      rw [hbl2] at HVL HWI hbl ⊢
      have HBL := Lib.hid hbl2
      have hii : (i : Int) < len := by omega
      obtain ⟨ak, ck, rfl⟩ := own_slice_any hown
      obtain ⟨nk, hnk⟩ : ∃ u, K.length = u := ⟨_, rfl⟩
      rw [hnk] at HOWN hkl ⊢
      have HNK := Lib.hid hnk
      clear hi hKK hown hR7 hg7 hXr hXw hxk hxv hat hvh hvv hbl2 hnk
      have HC : Hid (∀ W, Only [] wr W → W.cell? ⟨lb, lo + i * 2, none⟩ = some (.int .i64 xk) ∧ W.cell? ⟨lb, lo + i * 2 + 1, none⟩ = some (.int .i64 xv)) := Lib.hid (fun W o => ⟨keep_cell o l0, keep_cell o l1⟩)
      clear l1
      go_wp2_with fail
      refine HVL.out.mono ?_
      rintro e w2 ⟨rfl, hX2⟩
      have HX2 := Lib.hid hX2
      clear hX2 l0
      obtain ⟨l0, l1⟩ := HC.out w2 HX2.out
      have HSTAY : Hid (KAt w1 K (i + 1) (.slice a7 bl c7) (.slice ak nk ck) w2 ∧ Only [] w1 w2) := Lib.hid ⟨⟨HKK.out.mono, by rw [HNK.out]; exact ownsRow_only HOWN.out HX2.out (fun _ _ => by simp), g7, a7, c7, by rw [HBL.out], HR7.out.only HX2.out (by simp), fun h => ⟨Nat.lt_of_lt_of_le (HG7.out h).1 HX2.out.size, (HG7.out h).2.1, by have := (HG7.out h).2.2; rw [HNK.out] at this; exact this⟩⟩, HXR.out.trans HX2.out⟩
      cases vh with
      | true =>
        go_wp2_with fail
        go_roundg (gk - 1)
        case measure => have := HI.out; omega
        case rel => exact ⟨i + 1, K, by have := HI.out; omega, by go_num, HSTAY.out.1, HSTAY.out.2⟩
      | false =>
        by_cases h1 : xk < 0
        · have hd1 : decide (0 ≤ xk) = false := by simp; omega
          go_wp2_with fail
          go_roundg (gk - 1)
          case measure => have := HI.out; omega
          case rel => exact ⟨i + 1, K, by have := HI.out; omega, by go_num, HSTAY.out.1, HSTAY.out.2⟩
        · have hd1 : decide (0 ≤ xk) = true := by simp; omega
          by_cases h2 : 4294967295 < xk
          · have hd2 : decide (xk ≤ 4294967295) = false := by simp; omega
            go_wp2_with fail
            go_roundg (gk - 1)
            case measure => have := HI.out; omega
            case rel => exact ⟨i + 1, K, by have := HI.out; omega, by go_num, HSTAY.out.1, HSTAY.out.2⟩
          · have hd2 : decide (xk ≤ 4294967295) = true := by simp; omega
            have HKN := Lib.hid (HKK.out.snoc (x := (xk, xv)) ⟨by omega, by omega⟩ HAT.out.symm)
            go_wp2_with fail
            refine (HWI.out w2 HX2.out).mono ?_
            rintro e w3 ⟨v3, rfl, hown3, hX3⟩
            obtain ⟨g9, a9, c9, rfl, hR9, hg9, hg9l, _⟩ := rowp_own hown3
            have HX3 := Lib.hid (HX2.out.trans hX3)
            have HR9 := Lib.hid hR9
            have HG9 : Hid (withL (bag K) xk xv ≠ [] → wr.heap.size ≤ g9 ∧ g9 < w3.heap.size) := Lib.hid (fun h => ⟨Nat.le_trans HX2.out.size hg9, hg9l h⟩)
            clear hown3 hR9 hX3 hg9 hg9l l0 l1
            obtain ⟨l0, l1⟩ := HC.out w3 HX3.out
            obtain ⟨hi0, hz0, hz1, hz2⟩ := HI0.out
            have hb1 : w1.heap.size ≤ w3.heap.size := Nat.le_trans HXR.out.size HX3.out.size
            have HOW3 := Lib.hid (ownsRow_only HOWN.out HX3.out (fun _ _ => by simp))
            go_wp2_with (at_builtin; refine wpList_append_any (by rfl) (.tmp 79) (.tmp 84) 31 (by rfl) w1.heap.size 56 info0 _ 2 16 Try.underlying31 hi0 hz0 hz1 hz2 rfl (by decide) _ nk (prsC K) rfl (HOW3.out.alloc _) (some ⟨w3.heap.size, 0, none⟩) 1 1 [.int .i64 xk, .int .i64 xv] rfl rfl (fun e => by cases e) (fun ad e => by cases e; exact cells_pair _ _ _ _) (fun u hu => by simp at hu; rcases hu with rfl | rfl <;> rfl) (by unfold maxLen; omega) (by omega) (by simp; omega) ?_)
            intro v4 w4 hown4 hX4 hat4
            have hX34 : Only (Value.slice ak nk ck).ownBlock.toList w3 w4 := (Only.alloc _ w3 _).trans hX4
            have HX4 : Hid (Only [] w1 w4) := Lib.hid ((HXR.out.trans HX3.out).past hX34 (fun b hb => Or.inr (HOWN.out.lt b (by simpa using hb)).1))
            have HKA : Hid (KAt w1 (K ++ [(xk, xv)]) (i + 1) (.slice a9 (withL (bag K) xk xv).length c9) v4 w4) := Lib.hid (by
              have e1 : prsC (K ++ [(xk, xv)]) = prsC K ++ [.int .i64 xk, .int .i64 xv] := prsC_append _ _
              have e2 : (K ++ [(xk, xv)]).length = nk + 1 := by rw [List.length_append, HNK.out]; rfl
              refine ⟨HKN.out, by rw [e1, e2]; exact hown4, g9, a9, c9, by rw [bag_snoc], ?_, fun h => ?_⟩
              · rw [bag_snoc]
                refine HR9.out.only2 hX34 (fun h hm => ?_)
                have h1 := (HG9.out h).1
                have h2 := (HOWN.out.lt g9 (by simpa using hm)).2
                omega
              · rw [bag_snoc] at h
                have h1 := HG9.out h
                refine ⟨Nat.lt_of_lt_of_le h1.2 hX34.size, Nat.le_trans HXR.out.size h1.1, fun e => ?_⟩
                rcases hat4 g9 e with h2 | h2
                · have h3 := (HOWN.out.lt g9 h2).2
                  omega
                · have h4 : w3.heap.size + 1 ≤ g9 := by simpa using h2
                  omega)
            clear hown4 hX4 hat4 hX34 l0 l1 hi0 hz0 hz1 hz2
            go_wp2_with fail
            go_roundg (gk - 1)
            case measure => have := HI.out; omega
            case rel => exact ⟨i + 1, K ++ [(xk, xv)], by have := HI.out; omega, by go_num, HKA.out, HX4.out⟩
    --END1
    · have hil : i = len := by omega
      subst hil
      obtain ⟨kb, ka, kc, rfl, hRK, hgk, hgkl, _⟩ := rowp_own hown
      have hXw := HX1.out.trans hXr
      have HXW := Lib.hid hXw
      have HBK : Hid (bag K ≠ [] → g7 < wr.heap.size) := Lib.hid (fun h => (hg7 h).1)
      have HKL : Hid (K ≠ [] → kb < wr.heap.size) := Lib.hid hgkl
      have HRK := Lib.hid hRK
      obtain ⟨nk, hnk⟩ : ∃ u, K.length = u := ⟨_, rfl⟩
      obtain ⟨bl, hbl2⟩ : ∃ u, (bag K).length = u := ⟨_, rfl⟩
      have hkc : nk ≤ kc := by rw [← hnk]; exact hRK.fits
      have hc7 : bl ≤ c7 := by rw [← hbl2]; exact hR7.fits
      rw [hnk] at hkl ⊢
      rw [hbl2] at hbl ⊢
      have HNK := Lib.hid hnk
      have HBL := Lib.hid hbl2
      clear hi hKK hown hR7 hg7 hXr hXw hRK hgk hgkl hnk hbl2 HI HOWN HG7 hlt
      go_wp2_with fail
      refine (pool_new 4096 (by omega) (by omega) wr).mono ?_
      rintro e w2 ⟨A, rfl, hP, hX2, hA⟩
      have HX2 := Lib.hid hX2
      have HA := Lib.hid hA
      have HP := Lib.hid hP
      clear hP hX2 hA
      go_wp2_with (go_at_call 8; refine (num_12 _ _).mono ?_; rintro e w' ⟨rfl, rfl⟩)
      refine (trie_new HP.out).mono ?_
      rintro e w3 ⟨rfl, hT, hX3⟩
      obtain ⟨tb, htb⟩ : ∃ b, w2.heap.size = b := ⟨_, rfl⟩
      rw [htb] at hT ⊢
      have HTB : Hid (wr.heap.size ≤ tb) := Lib.hid (by have := HX2.out.size; omega)
      have HT := Lib.hid hT
      have HX3 := Lib.hid (HX2.out.trans hX3)
      clear hT hX3 htb HP HX2
      go_upto_region 18 with fail
      refine wp_name (fun w4 => Blk w4 w3.heap.size #[.int .i64 0, .int .i64 0] 63 ∧ Only [] w3 w4) ⟨Blk.new _ _ _, Only.alloc _ _ _⟩ ?_
      obtain ⟨rb, hrb⟩ : ∃ q, w3.heap.size = q := ⟨_, rfl⟩
      have HRB : Hid (wr.heap.size ≤ rb ∧ tb < rb ∧ (∀ k, k ∈ A.all → k < rb)) := Lib.hid (by
        have h1 := HX3.out.size
        have h2 := HT.out.lt
        exact ⟨by omega, by omega, fun k hk => by have := h2.2 k hk; omega⟩)
      rw [hrb]
      clear hrb
      rintro w4 ⟨hRB, hX4⟩
      have HTW : Hid (Two A tb rb 0 (fun _ => slot0) 0 (List.range' 1 4096) 0 (fun _ => none) w4) := Lib.hid ⟨tw_new (HT.out.plain hX4), hRB⟩
      have HX4 := Lib.hid (HX3.out.trans hX4)
      clear hRB hX4 HT HX3
      -- what stays while blocks of the pool and the variable are turned
      have HST : Hid (∀ W, Only (rb :: A.all) w4 W → RowP W kb ka kc K ∧ RowP W g7 a7 c7 (bag K) ∧ (bag K ≠ [] → g7 < W.heap.size) ∧ KeysIn W lb2 lo2 D ∧ Only [] w W) := Lib.hid (fun W o => by
        have h4 := HX4.out
        have hr := HRB.out.1
        have hn : ∀ g, g < wr.heap.size → g ∉ rb :: A.all := fun g hg hm => by
          rcases List.mem_cons.1 hm with h | h
          · omega
          · have := HA.out g h; omega
        refine ⟨(HRK.out.only h4 (by simp)).only2 o (fun h => hn _ (HKL.out h)), (HR7.out.only h4 (by simp)).only2 o (fun h => hn _ (HBK.out h)), fun h => Nat.lt_of_lt_of_le (HBK.out h) (Nat.le_trans h4.size o.size), fun q k hk => ?_, HXW.out.trans (h4.past o (fun q hq => Or.inr ?_))⟩
        · have hc := HD.out q k hk
          have hlt := cell_lt hc
          exact keep_off o (hn _ (Nat.lt_of_lt_of_le hlt HXW.out.size)) (keep_cell h4 (keep_cell HXW.out hc))
        · rcases List.mem_cons.1 hq with h | h
          · omega
          · exact HA.out q h)
      have HKN : Hid (K ≠ [] → kb ≠ rb ∧ kb ∉ A.all) := Lib.hid (fun h => ⟨fun e => by have := HKL.out h; have := HRB.out.1; omega, fun hm => by have := HKL.out h; have := HA.out kb hm; omega⟩)
      have HOFF : Hid (rb ∉ A.all ∧ tb ≠ rb) := Lib.hid ⟨fun hm => by have := HRB.out.2.2 rb hm; omega, by have := HRB.out.2.1; omega⟩
      obtain ⟨b, hb⟩ := place_or by0 nk (by omega)
      have HPL := Lib.hid hb
      obtain ⟨T1, hT1⟩ : ∃ u, by0.tmod (nk : Int) = u := ⟨_, rfl⟩
      rw [hT1] at HPL
      clear hb
      go_wp2_with fail
      go_loopg [16] 2 (fun gm s16 wq => ∃ (k : Nat) (S : Nat → Sl) (t : Int) (fs : List Nat) (c : Int) (oo : Nat → Option Tr) (s : Nat), k + gm = 2 ∧ s16 = .int .i64 (k : Nat) ∧ Two A tb rb s S t fs c oo wq ∧ (∀ q, q < 2 → prs (oo q) = if q < k then bag K else []) ∧ s ≤ k * nk ∧ Only (rb :: A.all) w4 wq)
      case atStart => exact ⟨0, _, _, _, _, _, 0, by omega, rfl, HTW.out, fun q hq => rfl, by omega, Only.refl _ _⟩
      case round =>
        clear HTW
        obtain ⟨k, S0, t0, fs0, c0, oo0, s0, hk, rfl, hTW, hprs, hs, hXq⟩ := hrel
        have HK := Lib.hid hk
        have HTW := Lib.hid hTW
        have HPRS := Lib.hid hprs
        have HS := Lib.hid hs
        have HXQ := Lib.hid hXq
        clear hTW hprs hs hXq
        by_cases hk2 : k < 2
        --ARM2
        · have hki : (k : Int) < 2 := by omega
          go_wp2_with fail
          go_loopg [17] nk (fun gi s17 wp => ∃ (i : Nat) (S : Nat → Sl) (t : Int) (fs : List Nat) (c : Int) (oo : Nat → Option Tr) (s : Nat), i + gi = nk ∧ s17 = .int .i64 (i : Nat) ∧ Two A tb rb s S t fs c oo wp ∧ (∀ q, q < 2 → prs (oo q) = if q < k then bag K else if q = k then bag ((ordK K b k).take i) else []) ∧ s ≤ k * nk + i ∧ Only (rb :: A.all) w4 wp)
          case atStart => exact ⟨0, _, _, _, _, _, s0, by omega, rfl, HTW.out, fun q hq => by rw [HPRS.out q hq]; by_cases h1 : q < k <;> simp [h1, bag], by have := HS.out; omega, HXQ.out⟩
          case round =>
            clear HTW HPRS HS HXQ
            obtain ⟨i, S, t, fs, c, oo, s, hi, rfl, hTW, hprs, hs, hXp⟩ := hrel
            have HI := Lib.hid hi
            have HTW := Lib.hid hTW
            have HPRS := Lib.hid hprs
            have HS := Lib.hid hs
            have HXP := Lib.hid hXp
            have hkn : k * nk ≤ nk := by have : k = 0 ∨ k = 1 := by omega
                                         rcases this with rfl | rfl <;> omega
            by_cases hlt : i < nk
            --ARM3
            · obtain ⟨hbn, hm1, hm2, hm3⟩ := HPL.out (by omega)
              obtain ⟨jj, hjj⟩ : ∃ jj, jj = if k = 0 then i else (nk - 1 - i + b) % nk := ⟨_, rfl⟩
              have hjl : jj < nk := by
                rw [hjj]
                split
                · exact hlt
                · exact Nat.mod_lt _ (by omega)
              obtain ⟨x, hx⟩ : ∃ x, K[jj]? = some x := ⟨_, List.getElem?_eq_getElem (by have := HNK.out; omega)⟩
              have hox : (ordK K b k)[i]? = some x := by
                rw [ordK_at (by have := HNK.out; omega) (by have := HNK.out; omega), HNK.out, ← hjj]
                exact hx
              obtain ⟨hRK, _⟩ := HST.out _ hXp
              obtain ⟨rfl, x0, x1⟩ := hRK.at hx
              have hInK : InK x.1 := HKK.out.rng x (List.mem_of_getElem? hx)
              have hpk := hprs k hk2
              rw [if_neg (Nat.lt_irrefl k), if_pos rfl] at hpk
              have hnx := bag_take hox
              have HPUT := Lib.hid (fun W (o : Only [] wr W) => tw_put_x (k := x.1) (v := x.2) ((hTW.plain o).at hk2) (by omega) hInK)
              rw [hpk, ← hnx] at HPUT
              obtain ⟨rt, hrt⟩ : ∃ r, rootOf S (oo k) = r := ⟨_, rfl⟩
              have hcell := hTW.cell hk2
              rw [hrt] at HPUT hcell
              obtain ⟨xk, hxk⟩ : ∃ u, x.1 = u := ⟨_, rfl⟩
              obtain ⟨xv, hxv⟩ : ∃ u, x.2 = u := ⟨_, rfl⟩
              rw [hxk] at HPUT x0
              rw [hxv] at HPUT x1
              obtain ⟨PN, hPN⟩ : ∃ u, bag ((ordK K b k).take (i + 1)) = u := ⟨_, rfl⟩
              rw [hPN] at HPUT
              have HPN := Lib.hid hPN
              have hkne := HKN.out (by intro e; rw [e] at hx; simp at hx)
              have HSC : Hid (∀ L W, Only L wr W → rb ∉ L → kb ∉ L → W.cell? ⟨rb, k, none⟩ = some (.int .i64 rt) ∧ W.cell? ⟨kb, jj * 2, none⟩ = some (.int .i64 xk) ∧ W.cell? ⟨kb, jj * 2 + 1, none⟩ = some (.int .i64 xv)) := Lib.hid (fun L W o h1 h2 => ⟨keep_off o h1 hcell, keep_off o h2 x0, keep_off o h2 x1⟩)
              have HKNE := Lib.hid hkne
              have HRBL := Lib.hid hTW.blk.lt
              have HAL : Hid (∀ q, q ∈ A.all → q < wr.heap.size) := Lib.hid hTW.tw.tr.lt.2
              have HTBL : Hid (tb < wr.heap.size) := Lib.hid hTW.tw.tr.lt.1
              have HJJ := Lib.hid hjj
              have hnI : (i : Int) < nk := by omega
              have hjI : (jj : Int) < nk := by omega
              have hn0 : ¬ ((nk : Int) = 0) := by omega
              have hn1 : ¬ (nk = 0) := by omega
              clear hTW hprs hs hXp hi hjj hjl hx hox hRK hInK hpk hnx hrt hcell hxk hxv hPN hkne x0 x1
              go_upto_if 112 with fail
              go_cut [18] (fun s18 wz => s18 = .int .i64 (jj : Nat) ∧ wz = wr)
              case first =>
                have hk01 : k = 0 ∨ k = 1 := by omega
                rcases hk01 with rfl | rfl
                · have hj0 : jj = i := HJJ.out
                  subst hj0
                  go_wp2_with fail
                  go_meet
                  case rel => exact ⟨rfl, rfl⟩
                · have hj1 : jj = (nk - 1 - i + b) % nk := HJJ.out
                  have hw1 : IntKind.i64.wrap T1 = T1 := IntWalk.i64_in _ ⟨by omega, by omega⟩
                  have hw2 : IntKind.i64.wrap (T1 + (nk : Int)) = T1 + (nk : Int) := IntWalk.i64_in _ ⟨by omega, by omega⟩
                  have hw3 : IntKind.i64.wrap (b : Int) = (b : Int) := IntWalk.i64_in _ ⟨by omega, by omega⟩
                  have hw4 : IntKind.i64.wrap ((nk : Int) - 1) = (nk : Int) - 1 := IntWalk.i64_in _ ⟨by omega, by omega⟩
                  have hw5 : IntKind.i64.wrap ((nk : Int) - 1 - (i : Int)) = (nk : Int) - 1 - (i : Int) := IntWalk.i64_in _ ⟨by omega, by omega⟩
                  have hw6 : IntKind.i64.wrap ((nk : Int) - 1 - (i : Int) + (b : Int)) = (nk : Int) - 1 - (i : Int) + (b : Int) := IntWalk.i64_in _ ⟨by omega, by omega⟩
                  have hm4 : ((nk : Int) - 1 - (i : Int) + (b : Int)).tmod (nk : Int) = (jj : Int) := by
                    rw [hj1, Int.tmod_eq_emod_of_nonneg (by omega)]
                    have e1 : (nk : Int) - 1 - (i : Int) + (b : Int) = ((nk - 1 - i + b : Nat) : Int) := by omega
                    rw [e1]
                    omega
                  have hw7 : IntKind.i64.wrap (jj : Int) = (jj : Int) := IntWalk.i64_in _ ⟨by omega, by omega⟩
                  clear hj1
                  go_wp2_with fail
                  go_meet
                  case rel => exact ⟨rfl, rfl⟩
              case rest =>
                obtain ⟨rfl, hwz⟩ := hcut
                subst hwz
                obtain ⟨wk, hwk⟩ : ∃ x, x = wc := ⟨_, rfl⟩
                subst hwk
                clear hm1 hm2 hm3
                go_upto_region 27 with fail
                go_cut [19, 20] (fun s19 s20 wz => ∃ (db : Nat) (r e1 er : Int) (e2 : Bool) (ag ma : Option Addr) (gl cg ml mc : Nat), s19 = .pointer (some ⟨db, 0, none⟩) ∧ s20 = .int .i64 er ∧ Only A.all wk wz ∧ Blk wz db #[.int .i64 r, .int .i64 e1, .bool e2, .slice ag gl cg, .slice ma ml mc] 38 ∧ wk.heap.size ≤ db ∧
                  (er = 102 ∨ (er = 0 ∧ ∃ (S2 : Nat → Sl) (t2 : Int) (fs2 : List Nat) (c2 : Int) (oy : Option Tr) (gs : List Nat) (gg : Nat), r = rootOf S2 oy ∧ gl = gs.length ∧ prs oy = PN ∧ TwMid A tb s S2 t2 fs2 c2 oy (oo (1 - k)) gs wz ∧ IntRow wz ag gg cg (hnds S2 gs) ∧ wk.heap.size ≤ gg ∧ rootOf S2 (oo (1 - k)) = rootOf S (oo (1 - k)))))
                case first =>
                  have HKS : Hid (∀ W, Only A.all wk W → W.cell? ⟨rb, k, none⟩ = some (.int .i64 rt) ∧ W.cell? ⟨kb, jj * 2, none⟩ = some (.int .i64 xk) ∧ W.cell? ⟨kb, jj * 2 + 1, none⟩ = some (.int .i64 xv)) := Lib.hid (fun W o => HSC.out A.all W o HOFF.out.1 HKNE.out.2)
                  have HOA : Hid (Only [] wk (wk.alloc (.cells #[.int .i64 0, .int .i64 0, .bool false, .slice none 0 0, .slice none 0 0] 38)).drew) := Lib.hid ((Only.alloc _ wk _).trans (Only.drew _ _))
                  have HZ : Hid (Blk (wk.alloc (.cells #[.int .i64 0, .int .i64 0, .bool false, .slice none 0 0, .slice none 0 0] 38)).drew wk.heap.size #[.int .i64 0, .int .i64 0, .bool false, .slice none 0 0, .slice none 0 0] 38) := Lib.hid (Blk.new wk _ _).drew
                  obtain ⟨d0, d1, d2⟩ := HKS.out wk.drew (Only.drew _ _)
                  have HS5 : Hid (∀ (W : World) (x0 x1 x2 x3 x4 : Value), Only A.all wk W → (((((W.setCell ⟨wk.heap.size, 0, none⟩ x0).setCell ⟨wk.heap.size, 1, none⟩ x1).setCell ⟨wk.heap.size, 2, none⟩ x2).setCell ⟨wk.heap.size, 3, none⟩ x3).setCell ⟨wk.heap.size, 4, none⟩ x4).cell? ⟨rb, k, none⟩ = some (.int .i64 rt) ∧ (((((W.setCell ⟨wk.heap.size, 0, none⟩ x0).setCell ⟨wk.heap.size, 1, none⟩ x1).setCell ⟨wk.heap.size, 2, none⟩ x2).setCell ⟨wk.heap.size, 3, none⟩ x3).setCell ⟨wk.heap.size, 4, none⟩ x4).cell? ⟨kb, jj * 2, none⟩ = some (.int .i64 xk) ∧ (((((W.setCell ⟨wk.heap.size, 0, none⟩ x0).setCell ⟨wk.heap.size, 1, none⟩ x1).setCell ⟨wk.heap.size, 2, none⟩ x2).setCell ⟨wk.heap.size, 3, none⟩ x3).setCell ⟨wk.heap.size, 4, none⟩ x4).cell? ⟨kb, jj * 2 + 1, none⟩ = some (.int .i64 xv)) := Lib.hid (fun W x0 x1 x2 x3 x4 o => HKS.out _ (o.past (set_five W wk.heap.size x0 x1 x2 x3 x4) (fun k hk => by simp at hk; right; omega)))
                  go_region_held3 (fun W => W.cell? ⟨rb, k, none⟩ = some (.int .i64 rt) ∧ W.cell? ⟨kb, jj * 2, none⟩ = some (.int .i64 xk) ∧ W.cell? ⟨kb, jj * 2 + 1, none⟩ = some (.int .i64 xv))
                    (first | with_reducible exact HS5.out _ _ _ _ _ _ HX8.out | with_reducible exact ⟨d0, d1, d2⟩ | with_reducible exact HKS.out _ (HOA.out.mono (by simp)) | with_reducible exact HKS.out _ HX8.out | with_reducible exact HKS.out _ (HX8.out.trans (Only.alloc _ _ _)))
                    (first | (go_at_call 20; refine (HPUT.out wk.drew (Only.drew _ _)).mono ?_; rintro e w8 ⟨r, e1, er, e2, ag, ma, gl, cg, ml, mc, rfl, hX8, hq8⟩; have HX8 := Lib.hid (((Only.drew [] wk).mono (by simp) : Only A.all wk wk.drew).trans hX8); have HQ8 := Lib.hid hq8; clear hX8 hq8) | (go_at_call 20; refine (HPUT.out _ HOA.out).mono ?_; rintro e w8 ⟨r, e1, er, e2, ag, ma, gl, cg, ml, mc, rfl, hX8, hq8⟩; have hz := HZ.out.only hX8 (fun hm => by have := HAL.out _ hm; omega); have z0 := hz.cell 0 rfl; have z1 := hz.cell 1 rfl; have z2 := hz.cell 2 rfl; have z3 := hz.cell 3 rfl; have z4 := hz.cell 4 rfl; have q0 := hz.free 0; have q1 := hz.free 1; have q2 := hz.free 2; have q3 := hz.free 3; have q4 := hz.free 4; have HSX := Lib.hid hX8.size; have HX8 := Lib.hid ((HOA.out.mono (by simp) : Only A.all wk _).trans hX8); have HQ8 := Lib.hid hq8; have HZZ := Lib.hid hz; clear hX8 hq8 hz))
                  all_goals go_wp2_with fail
                  all_goals go_meet
                  · refine ⟨w8.heap.size, r, e1, er, e2, ag, ma, gl, cg, ml, mc, rfl, rfl, HX8.out.trans (Only.alloc _ _ _), Blk.new _ _ _, HX8.out.size, ?_⟩
                    rcases HQ8.out with ⟨_, h⟩ | ⟨h0, S2, t2, fs2, c2, oy, gs, gg, h1, h2, h3, h4, h5, h6, h7⟩
                    · exact Or.inl h
                    · exact Or.inr ⟨h0, S2, t2, fs2, c2, oy, gs, gg, h1, h2, h3, h4.other (Only.alloc [] _ _) (by simp) (fun _ _ => by simp), h5.only (Only.alloc [] _ _) (fun _ => by simp), h6, h7⟩
                  · have hsx : wk.heap.size + 1 ≤ w8.heap.size := by have := HSX.out; simpa using this
                    have h5x := set_five w8 wk.heap.size (.int .i64 r) (.int .i64 e1) (.bool e2) (.slice ag gl cg) (.slice ma ml mc)
                    refine ⟨wk.heap.size, r, e1, er, e2, ag, ma, gl, cg, ml, mc, rfl, rfl, HX8.out.past h5x (fun q hq => by simp at hq; right; omega), ((((HZZ.out.set_same 0 _).set_same 1 _).set_same 2 _).set_same 3 _).set_same 4 _, Nat.le_refl _, ?_⟩
                    rcases HQ8.out with ⟨_, h⟩ | ⟨h0, S2, t2, fs2, c2, oy, gs, gg, h1, h2, h3, h4, h5, h6, h7⟩
                    · exact Or.inl h
                    · have h6' : wk.heap.size + 1 ≤ gg := by simpa using h6
                      have htl := HTBL.out
                      exact Or.inr ⟨h0, S2, t2, fs2, c2, oy, gs, gg, h1, h2, h3, h4.other h5x (by simp; omega) (fun q hq => by have := HAL.out q hq; simp; omega), h5.only h5x (fun _ => by simp; omega), by omega, h7⟩
                case rest =>
                  obtain ⟨db, r, e1, er, e2, ag, ma, gl, cg, ml, mc, rfl, rfl, hXc, hDB, hdb, hq⟩ := hcut
                  obtain ⟨we, hwe⟩ : ∃ x, x = wc := ⟨_, rfl⟩
                  subst hwe
                  have HXC := Lib.hid hXc
                  rcases hq with rfl | ⟨rfl, S2, t2, fs2, c2, oy, gs, gg, hr, hgl, hPy, hMid, hIR, hgg, hzz⟩
                  · have HOW : Hid (Only [] w we) := Lib.hid (HST.out we (HXP.out.trans (hXc.mono (fun q hq => List.mem_cons_of_mem _ hq)))).2.2.2.2
                    clear hXc hDB hdb
                    go_wp2_with (go_at_call 8; refine (num_12 _ _).mono ?_; rintro e w' ⟨rfl, rfl⟩)
                    go_ret
                    exact ⟨rfl, HOW.out⟩
                  · have hB := HTW.out.blk.only hXc HOFF.out.1
                    have hfr := hB.free k
                    have d0 := hDB.cell 0 rfl
                    have hdr : rb ≠ db := by have := HRBL.out; omega
                    have HDB := Lib.hid (And.intro hDB hdr)
                    have HB := Lib.hid hB
                    have hkc2 := (HSC.out A.all we hXc HOFF.out.1 HKNE.out.2).1
                    have hs2 := HS.out
                    have HUN : Hid (∀ W, Only [rb] we W → Calls Try.prog 21 #[.pointer (some ⟨tb, 0, none⟩), .pointer none, .slice ag gl cg] W fun e w' => e = .returned (.int .i64 0) ∧ (∃ S' t' fs' c', Tw A tb (s + 1) S' t' fs' c' oy (oo (1 - k)) w' ∧ rootOf S' oy = rootOf S2 oy ∧ rootOf S' (oo (1 - k)) = rootOf S2 (oo (1 - k))) ∧ Only A.all W w') := Lib.hid (fun W o => by
                      rw [hgl]
                      refine tw_undo (hMid.other o (by simp; exact HOFF.out.2) (fun q hq => by simp; intro e; rw [e] at hq; exact HOFF.out.1 hq)) (by omega) (hIR.only o (fun _ => by have := HRBL.out; simp; omega)) (fun hm => by have := HAL.out _ hm; omega))
                    have HPY := Lib.hid hPy
                    have HRR := Lib.hid (And.intro hr hzz)
                    clear hr hgl hPy hMid hIR hgg hzz hXc hDB hB hdr hdb hs2
                    go_upto_region 31 with (go_at_call 8; refine (num_12 _ _).mono ?_; rintro e w' ⟨rfl, rfl⟩)
                    refine wp_name (fun wf => Blk wf rb ((#[.int .i64 (rootOf S (oo 0)), .int .i64 (rootOf S (oo 1))] : Array Value).setIfInBounds k (.int .i64 r)) 63 ∧ Only [rb] we wf) ⟨HB.out.set_same k _, Only.setCell _ (by simp) _⟩ ?_
                    rintro wf ⟨hBf, hXf⟩
                    have d3 := (HDB.out.1.only hXf (by simp; exact fun e => HDB.out.2 e.symm)).cell 3 rfl
                    have HUN2 := Lib.hid (HUN.out wf hXf)
                    have HBF := Lib.hid hBf
                    have HXF := Lib.hid hXf
                    clear hBf hXf hfr d0 hkc2 HUN
                    go_wp2_with (first | (go_at_call 8; refine (num_12 _ _).mono ?_; rintro e w' ⟨rfl, rfl⟩) | (go_at_call 21; refine HUN2.out.mono ?_; rintro e w7 ⟨rfl, ⟨S3, t3, fs3, c3, hT3, hry, hrz⟩, hX7⟩; have HT3 := Lib.hid hT3; have HR3 := Lib.hid (And.intro hry hrz); have HX7 := Lib.hid hX7; clear hT3 hry hrz hX7))
                    go_roundg (gk - 1)
                    case measure => have := HI.out; omega
                    case rel =>
                      refine ⟨i + 1, S3, t3, fs3, c3, updO oo k oy, s + 1, by have := HI.out; omega, by go_num, two_next hk2 HT3.out (HBF.out.only HX7.out HOFF.out.1) (HR3.out.1.trans HRR.out.1.symm) (HR3.out.2.trans HRR.out.2), fun q hq => ?_, by have := HS.out; omega, ((HXP.out.trans (HXC.out.mono (fun q hq => List.mem_cons_of_mem _ hq))).trans (HXF.out.mono (fun q hq => by simp at hq; simp [hq]))).trans (HX7.out.mono (fun q hq => List.mem_cons_of_mem _ hq))⟩
                      have hp := HPRS.out q hq
                      by_cases hqk : q = k
                      · subst hqk
                        simp only [updO, if_true, Nat.lt_irrefl, if_false]
                        rw [HPY.out, ← HPN.out]
                      · simp only [updO, if_neg hqk] at hp ⊢
                        exact hp
            --END3
            · have hin : i = nk := by omega
              subst hin
              clear hTW hprs hs hXp hi hlt
              go_wp2_with fail
              go_roundg (2 - (k + 1))
              case measure => have := HK.out; omega
              case rel =>
                refine ⟨k + 1, S, t, fs, c, oo, s, by have := HK.out; omega, by go_num, HTW.out, fun q hq => ?_, by have := HS.out; rw [Nat.succ_mul]; exact this, HXP.out⟩
                have hp := HPRS.out q hq
                rw [hp]
                by_cases h1 : q < k
                · simp [h1, Nat.lt_succ_of_lt h1]
                · by_cases h2 : q = k
                  · subst h2
                    have e1 : (ordK K b q).take i = ordK K b q := List.take_of_length_le (by rw [ordK_length, HNK.out]; exact Nat.le_refl _)
                    simp [e1, ordK_bag HKK.out.apart]
                  · have h3 : ¬ q < k + 1 := by omega
                    simp [h1, h2, h3]
        --END2
        · have hk2' : k = 2 := by have := HK.out; omega
          subst hk2'
          have HPB : Hid (∀ q, q < 2 → prs (oo0 q) = bag K) := Lib.hid (fun q hq => by rw [HPRS.out q hq, if_pos hq])
          have hs200 : s0 ≤ 200 := by have := HS.out; omega
          have HBG : Hid (∀ D', (cut (bag K) D').length ≤ 100) := Lib.hid (fun D' => by have h1 := cut_le D' (bag K); have h2 := HBL.out; omega)
          clear hk2
          go_wp2_with fail
          go_loopg [21] len2 (fun gm s21 wq => ∃ (i : Nat) (S : Nat → Sl) (t : Int) (fs : List Nat) (c : Int) (oo : Nat → Option Tr) (s : Nat), i + gm = len2 ∧ s21 = .int .i64 (i : Nat) ∧ Two A tb rb s S t fs c oo wq ∧ (∀ q, q < 2 → prs (oo q) = cut (bag K) ((ordD D q).take i)) ∧ s ≤ 200 + 2 * i ∧ Only (rb :: A.all) w4 wq)
          case atStart => exact ⟨0, _, _, _, _, _, s0, by omega, rfl, HTW.out, fun q hq => by rw [HPB.out q hq]; simp [cut], by omega, HXQ.out⟩
          case round =>
            clear HTW HPRS HPB HS HXQ hs200 HPL
            obtain ⟨i, S0, t0, fs0, c0, oo0, s0, hi, rfl, hTW, hprs, hs, hXq⟩ := hrel
            have HI := Lib.hid hi
            have HTW := Lib.hid hTW
            have HPRS := Lib.hid hprs
            have HS := Lib.hid hs
            have HXQ := Lib.hid hXq
            clear hTW hprs hs hXq
            by_cases hlt2 : i < len2
            --ARM4
            · obtain rfl := HAD2.out (by omega)
              have hii : (i : Int) < len2 := by omega
              go_wp2_with fail
              go_loopg [22] 2 (fun gm s22 wp => ∃ (k : Nat) (S : Nat → Sl) (t : Int) (fs : List Nat) (c : Int) (oo : Nat → Option Tr) (s : Nat), k + gm = 2 ∧ s22 = .int .i64 (k : Nat) ∧ Two A tb rb s S t fs c oo wp ∧ (∀ q, q < 2 → prs (oo q) = cut (bag K) ((ordD D q).take (if q < k then i + 1 else i))) ∧ s ≤ 200 + 2 * i + k ∧ Only (rb :: A.all) w4 wp)
              case atStart => exact ⟨0, _, _, _, _, _, s0, by omega, rfl, HTW.out, fun q hq => by rw [HPRS.out q hq]; simp, by have := HS.out; omega, HXQ.out⟩
              case round =>
                clear HTW HPRS HS HXQ
                obtain ⟨k, S, t, fs, c, oo, s, hk, rfl, hTW, hprs, hs, hXp⟩ := hrel
                have HK := Lib.hid hk
                have HTW := Lib.hid hTW
                have HPRS := Lib.hid hprs
                have HS := Lib.hid hs
                have HXP := Lib.hid hXp
                by_cases hk2 : k < 2
                --ARM5
                · obtain ⟨jj, hjj⟩ : ∃ jj, jj = if k = 0 then i else len2 - 1 - i := ⟨_, rfl⟩
                  have hjl : jj < len2 := by
                    rw [hjj]
                    split <;> omega
                  obtain ⟨y, hy⟩ : ∃ y, D[jj]? = some y := ⟨_, List.getElem?_eq_getElem (by have := HDL.out; omega)⟩
                  have hoy : (ordD D k)[i]? = some y := by
                    rw [ordD_at (by have := HDL.out; omega), HDL.out, ← hjj]
                    exact hy
                  have y0 := (HST.out _ hXp).2.2.2.1 jj y hy
                  have hpk := hprs k hk2
                  rw [if_neg (Nat.lt_irrefl k)] at hpk
                  have hpl : ∀ q, q < 2 → (prs (oo q)).length ≤ 100 := fun q hq => by rw [hprs q hq]; exact HBG.out _
                  have hnx := cut_take (l := bag K) hoy
                  have HDRP := Lib.hid (fun W (o : Only [] wr W) => tw_drop_x (k := y) ((hTW.plain o).at hk2) (by omega) (hpl k hk2) (hpl (1 - k) (by omega)))
                  rw [hpk, ← hnx] at HDRP
                  obtain ⟨rt, hrt⟩ : ∃ r, rootOf S (oo k) = r := ⟨_, rfl⟩
                  have hcell := hTW.cell hk2
                  rw [hrt] at HDRP hcell
                  obtain ⟨PN, hPN⟩ : ∃ u, cut (bag K) ((ordD D k).take (i + 1)) = u := ⟨_, rfl⟩
                  obtain ⟨PO, hPO⟩ : ∃ u, cut (bag K) ((ordD D k).take i) = u := ⟨_, rfl⟩
                  rw [hPN, hPO] at HDRP
                  have HNO : Hid (isAt PO y = false → PN = PO) := Lib.hid (fun h => by rw [← hPN, hnx, hPO]; exact lessL_none h)
                  have HPN := Lib.hid (And.intro hPN hPO)
                  have hlb2 : lb2 < w.heap.size := cell_lt (HD.out jj y hy)
                  have HLB2 : Hid (lb2 ∉ A.all ∧ lb2 ≠ rb) := Lib.hid ⟨fun hm => by have := HA.out _ hm; have := HXW.out.size; omega, by have := HRB.out.1; have := HXW.out.size; omega⟩
                  have HSC : Hid (∀ L W, Only L wr W → rb ∉ L → lb2 ∉ L → W.cell? ⟨rb, k, none⟩ = some (.int .i64 rt) ∧ W.cell? ⟨lb2, lo2 + jj, none⟩ = some (.int .i64 y)) := Lib.hid (fun L W o h1 h2 => ⟨keep_off o h1 hcell, keep_off o h2 y0⟩)
                  have HRBL := Lib.hid hTW.blk.lt
                  have HAL : Hid (∀ q, q ∈ A.all → q < wr.heap.size) := Lib.hid hTW.tw.tr.lt.2
                  have HTBL : Hid (tb < wr.heap.size) := Lib.hid hTW.tw.tr.lt.1
                  have HJJ := Lib.hid hjj
                  have hjI : (jj : Int) < len2 := by omega
                  have hki : (k : Int) < 2 := by omega
                  clear hTW hprs hs hXp hk hjj hjl hy hoy y0 hpk hpl hnx hrt hcell hPN hPO hlb2
                  go_upto_if 178 with fail
                  go_cut [23] (fun s23 wz => s23 = .int .i64 (jj : Nat) ∧ wz = wr)
                  case first =>
                    have hk01 : k = 0 ∨ k = 1 := by omega
                    rcases hk01 with rfl | rfl
                    · have hj0 : jj = i := HJJ.out
                      subst hj0
                      go_wp2_with fail
                      go_meet
                      case rel => exact ⟨rfl, rfl⟩
                    · have hj1 : jj = len2 - 1 - i := HJJ.out
                      have hw4 : IntKind.i64.wrap ((len2 : Int) - 1) = (len2 : Int) - 1 := IntWalk.i64_in _ ⟨by omega, by omega⟩
                      have hw5 : IntKind.i64.wrap ((len2 : Int) - 1 - (i : Int)) = (jj : Int) := by rw [IntWalk.i64_in _ ⟨by omega, by omega⟩]; omega
                      clear hj1
                      go_wp2_with fail
                      go_meet
                      case rel => exact ⟨rfl, rfl⟩
                  case rest =>
                    obtain ⟨rfl, hwz⟩ := hcut
                    subst hwz
                    obtain ⟨wk, hwk⟩ : ∃ x, x = wc := ⟨_, rfl⟩
                    subst hwk
                    go_upto_region 42 with fail
                    go_cut [24, 25] (fun s24 s25 wz => ∃ (db : Nat) (r e1 er : Int) (e2 : Bool) (ag ma : Option Addr) (gl cg ml mc : Nat), s24 = .pointer (some ⟨db, 0, none⟩) ∧ s25 = .int .i64 er ∧ Only A.all wk wz ∧ Blk wz db #[.int .i64 r, .int .i64 e1, .bool e2, .slice ag gl cg, .slice ma ml mc] 38 ∧ wk.heap.size ≤ db ∧
                      ((er ≠ 0 ∧ isAt PO y = false ∧ Only [] wk wz) ∨ (er = 0 ∧ ∃ (S2 : Nat → Sl) (t2 : Int) (fs2 : List Nat) (c2 : Int) (oy : Option Tr) (gs : List Nat) (gg : Nat), r = rootOf S2 oy ∧ gl = gs.length ∧ prs oy = PN ∧ TwMid A tb s S2 t2 fs2 c2 oy (oo (1 - k)) gs wz ∧ IntRow wz ag gg cg (hnds S2 gs) ∧ wk.heap.size ≤ gg ∧ rootOf S2 (oo (1 - k)) = rootOf S (oo (1 - k)))))
                    case first =>
                      have HKS : Hid (∀ W, Only A.all wk W → W.cell? ⟨rb, k, none⟩ = some (.int .i64 rt) ∧ W.cell? ⟨lb2, lo2 + jj, none⟩ = some (.int .i64 y)) := Lib.hid (fun W o => HSC.out A.all W o HOFF.out.1 HLB2.out.1)
                      have HOA : Hid (Only [] wk (wk.alloc (.cells #[.int .i64 0, .int .i64 0, .bool false, .slice none 0 0, .slice none 0 0] 38)).drew) := Lib.hid ((Only.alloc _ wk _).trans (Only.drew _ _))
                      have HZ : Hid (Blk (wk.alloc (.cells #[.int .i64 0, .int .i64 0, .bool false, .slice none 0 0, .slice none 0 0] 38)).drew wk.heap.size #[.int .i64 0, .int .i64 0, .bool false, .slice none 0 0, .slice none 0 0] 38) := Lib.hid (Blk.new wk _ _).drew
                      obtain ⟨d0, d1⟩ := HKS.out wk.drew (Only.drew _ _)
                      have HS5 : Hid (∀ (W : World) (x0 x1 x2 x3 x4 : Value), Only A.all wk W → (((((W.setCell ⟨wk.heap.size, 0, none⟩ x0).setCell ⟨wk.heap.size, 1, none⟩ x1).setCell ⟨wk.heap.size, 2, none⟩ x2).setCell ⟨wk.heap.size, 3, none⟩ x3).setCell ⟨wk.heap.size, 4, none⟩ x4).cell? ⟨rb, k, none⟩ = some (.int .i64 rt) ∧ (((((W.setCell ⟨wk.heap.size, 0, none⟩ x0).setCell ⟨wk.heap.size, 1, none⟩ x1).setCell ⟨wk.heap.size, 2, none⟩ x2).setCell ⟨wk.heap.size, 3, none⟩ x3).setCell ⟨wk.heap.size, 4, none⟩ x4).cell? ⟨lb2, lo2 + jj, none⟩ = some (.int .i64 y)) := Lib.hid (fun W x0 x1 x2 x3 x4 o => HKS.out _ (o.past (set_five W wk.heap.size x0 x1 x2 x3 x4) (fun k hk => by simp at hk; right; omega)))
                      go_region_held3 (fun W => W.cell? ⟨rb, k, none⟩ = some (.int .i64 rt) ∧ W.cell? ⟨lb2, lo2 + jj, none⟩ = some (.int .i64 y))
                        (first | with_reducible exact HS5.out _ _ _ _ _ _ HX8.out | with_reducible exact ⟨d0, d1⟩ | with_reducible exact HKS.out _ (HOA.out.mono (by simp)) | with_reducible exact HKS.out _ HX8.out | with_reducible exact HKS.out _ (HX8.out.trans (Only.alloc _ _ _)))
                        (first | (go_at_call 22; refine (HDRP.out wk.drew (Only.drew _ _)).mono ?_; rintro e w8 ⟨r, e1, er, e2, ag, ma, gl, cg, ml, mc, rfl, hX8, hq8⟩; have HX8 := Lib.hid (((Only.drew [] wk).mono (by simp) : Only A.all wk wk.drew).trans hX8); have HQ8 := Lib.hid hq8; clear hX8 hq8) | (go_at_call 22; refine (HDRP.out _ HOA.out).mono ?_; rintro e w8 ⟨r, e1, er, e2, ag, ma, gl, cg, ml, mc, rfl, hX8, hq8⟩; have hz := HZ.out.only hX8 (fun hm => by have := HAL.out _ hm; omega); have z0 := hz.cell 0 rfl; have z1 := hz.cell 1 rfl; have z2 := hz.cell 2 rfl; have z3 := hz.cell 3 rfl; have z4 := hz.cell 4 rfl; have q0 := hz.free 0; have q1 := hz.free 1; have q2 := hz.free 2; have q3 := hz.free 3; have q4 := hz.free 4; have HSX := Lib.hid hX8.size; have HX8 := Lib.hid ((HOA.out.mono (by simp) : Only A.all wk _).trans hX8); have HQ8 := Lib.hid hq8; have HZZ := Lib.hid hz; clear hX8 hq8 hz))
                      all_goals go_wp2_with fail
                      all_goals go_meet
                      · refine ⟨w8.heap.size, r, e1, er, e2, ag, ma, gl, cg, ml, mc, rfl, rfl, HX8.out.trans (Only.alloc _ _ _), Blk.new _ _ _, HX8.out.size, ?_⟩
                        rcases HQ8.out with ⟨h0, h1, h2⟩ | ⟨h0, S2, t2, fs2, c2, oy, gs, gg, h1, h2, h3, h4, h5, h6, h7⟩
                        · exact Or.inl ⟨h0, h1, ((Only.drew [] wk).trans h2).trans (Only.alloc _ _ _)⟩
                        · exact Or.inr ⟨h0, S2, t2, fs2, c2, oy, gs, gg, h1, h2, h3, h4.other (Only.alloc [] _ _) (by simp) (fun _ _ => by simp), h5.only (Only.alloc [] _ _) (fun _ => by simp), h6, h7⟩
                      · have hsx : wk.heap.size + 1 ≤ w8.heap.size := by have := HSX.out; simpa using this
                        have h5x := set_five w8 wk.heap.size (.int .i64 r) (.int .i64 e1) (.bool e2) (.slice ag gl cg) (.slice ma ml mc)
                        refine ⟨wk.heap.size, r, e1, er, e2, ag, ma, gl, cg, ml, mc, rfl, rfl, HX8.out.past h5x (fun q hq => by simp at hq; right; omega), ((((HZZ.out.set_same 0 _).set_same 1 _).set_same 2 _).set_same 3 _).set_same 4 _, Nat.le_refl _, ?_⟩
                        rcases HQ8.out with ⟨h0, h1, h2⟩ | ⟨h0, S2, t2, fs2, c2, oy, gs, gg, h1, h2, h3, h4, h5, h6, h7⟩
                        · exact Or.inl ⟨h0, h1, (HOA.out.trans h2).past h5x (fun q hq => by simp at hq; right; omega)⟩
                        · have h6' : wk.heap.size + 1 ≤ gg := by simpa using h6
                          have htl := HTBL.out
                          exact Or.inr ⟨h0, S2, t2, fs2, c2, oy, gs, gg, h1, h2, h3, h4.other h5x (by simp; omega) (fun q hq => by have := HAL.out q hq; simp; omega), h5.only h5x (fun _ => by simp; omega), by omega, h7⟩
                    case rest =>
                      obtain ⟨db, r, e1, er, e2, ag, ma, gl, cg, ml, mc, rfl, rfl, hXc, hDB, hdb, hq⟩ := hcut
                      obtain ⟨we, hwe⟩ : ∃ x, x = wc := ⟨_, rfl⟩
                      subst hwe
                      have HXC := Lib.hid hXc
                      rcases hq with ⟨he0, hno, hX0⟩ | ⟨rfl, S2, t2, fs2, c2, oy, gs, gg, hr, hgl, hPy, hMid, hIR, hgg, hzz⟩
                      · have HTE := Lib.hid (HTW.out.plain hX0)
                        have hpe := HNO.out hno
                        have HPE := Lib.hid hpe
                        have hne : (er == 0) = false := by simpa using he0
                        clear hXc hDB hdb hX0 hno hpe
                        go_wp2_with (go_at_call 8; refine (num_12 _ _).mono ?_; rintro e w' ⟨rfl, rfl⟩)
                        go_roundg (2 - (k + 1))
                        case measure => have := HK.out; omega
                        case rel =>
                          refine ⟨k + 1, S, t, fs, c, oo, s, by have := HK.out; omega, by go_num, HTE.out, fun q hq => ?_, by have := HS.out; omega, HXP.out.trans (HXC.out.mono (fun q hq => List.mem_cons_of_mem _ hq))⟩
                          have hp := HPRS.out q hq
                          by_cases hqk : q = k
                          · subst hqk
                            rw [if_neg (Nat.lt_irrefl q), HPN.out.2] at hp
                            rw [if_pos (Nat.lt_succ_self q), HPN.out.1, hp, HPE.out]
                          · rw [hp]
                            have e1 : (q < k + 1) ↔ (q < k) := by omega
                            simp [e1]
                      · have hB := HTW.out.blk.only hXc HOFF.out.1
                        have hfr := hB.free k
                        have d0 := hDB.cell 0 rfl
                        have hdr : rb ≠ db := by have := HRBL.out; omega
                        have HDB := Lib.hid (And.intro hDB hdr)
                        have HB := Lib.hid hB
                        have hkc2 := (HSC.out A.all we hXc HOFF.out.1 HLB2.out.1).1
                        have hs2 := HS.out
                        have HUN : Hid (∀ W, Only [rb] we W → Calls Try.prog 21 #[.pointer (some ⟨tb, 0, none⟩), .pointer none, .slice ag gl cg] W fun e w' => e = .returned (.int .i64 0) ∧ (∃ S' t' fs' c', Tw A tb (s + 1) S' t' fs' c' oy (oo (1 - k)) w' ∧ rootOf S' oy = rootOf S2 oy ∧ rootOf S' (oo (1 - k)) = rootOf S2 (oo (1 - k))) ∧ Only A.all W w') := Lib.hid (fun W o => by
                          rw [hgl]
                          refine tw_undo (hMid.other o (by simp; exact HOFF.out.2) (fun q hq => by simp; intro e; rw [e] at hq; exact HOFF.out.1 hq)) (by omega) (hIR.only o (fun _ => by have := HRBL.out; simp; omega)) (fun hm => by have := HAL.out _ hm; omega))
                        have HPY := Lib.hid hPy
                        have HRR := Lib.hid (And.intro hr hzz)
                        clear hr hgl hPy hMid hIR hgg hzz hXc hDB hB hdr hdb hs2
                        go_upto_region 45 with (go_at_call 8; refine (num_12 _ _).mono ?_; rintro e w' ⟨rfl, rfl⟩)
                        refine wp_name (fun wf => Blk wf rb ((#[.int .i64 (rootOf S (oo 0)), .int .i64 (rootOf S (oo 1))] : Array Value).setIfInBounds k (.int .i64 r)) 63 ∧ Only [rb] we wf) ⟨HB.out.set_same k _, Only.setCell _ (by simp) _⟩ ?_
                        rintro wf ⟨hBf, hXf⟩
                        have d3 := (HDB.out.1.only hXf (by simp; exact fun e => HDB.out.2 e.symm)).cell 3 rfl
                        have HUN2 := Lib.hid (HUN.out wf hXf)
                        have HBF := Lib.hid hBf
                        have HXF := Lib.hid hXf
                        clear hBf hXf hfr d0 hkc2 HUN
                        go_wp2_with (first | (go_at_call 8; refine (num_12 _ _).mono ?_; rintro e w' ⟨rfl, rfl⟩) | (go_at_call 21; refine HUN2.out.mono ?_; rintro e w7 ⟨rfl, ⟨S3, t3, fs3, c3, hT3, hry, hrz⟩, hX7⟩; have HT3 := Lib.hid hT3; have HR3 := Lib.hid (And.intro hry hrz); have HX7 := Lib.hid hX7; clear hT3 hry hrz hX7))
                        go_roundg (2 - (k + 1))
                        case measure => have := HK.out; omega
                        case rel =>
                          refine ⟨k + 1, S3, t3, fs3, c3, updO oo k oy, s + 1, by have := HK.out; omega, by go_num, two_next hk2 HT3.out (HBF.out.only HX7.out HOFF.out.1) (HR3.out.1.trans HRR.out.1.symm) (HR3.out.2.trans HRR.out.2), fun q hq => ?_, by have := HS.out; omega, ((HXP.out.trans (HXC.out.mono (fun q hq => List.mem_cons_of_mem _ hq))).trans (HXF.out.mono (fun q hq => by simp at hq; simp [hq]))).trans (HX7.out.mono (fun q hq => List.mem_cons_of_mem _ hq))⟩
                          have hp := HPRS.out q hq
                          by_cases hqk : q = k
                          · subst hqk
                            rw [if_pos (Nat.lt_succ_self q), HPN.out.1]
                            simp only [updO, if_true]
                            exact HPY.out
                          · have e1 : (q < k + 1) ↔ (q < k) := by omega
                            simp only [updO, if_neg hqk, e1]
                            exact hp
                --END5
                · have hk2' : k = 2 := by have := HK.out; omega
                  subst hk2'
                  clear hTW hprs hs hXp hk hk2
                  go_wp2_with fail
                  go_roundg (len2 - (i + 1))
                  case measure => have := HI.out; omega
                  case rel => exact ⟨i + 1, S, t, fs, c, oo, s, by have := HI.out; omega, by go_num, HTW.out, fun q hq => by rw [HPRS.out q hq, if_pos hq], by have := HS.out; omega, HXP.out⟩
            --END4
            · have hil2 : i = len2 := by have := HI.out; omega
              subst hil2
              have HPZ : Hid (∀ q, q < 2 → prs (oo0 q) = cut (bag K) D) := Lib.hid (fun q hq => by
                rw [HPRS.out q hq, List.take_of_length_le (by rw [ordD_length, HDL.out]; exact Nat.le_refl _)]
                exact ordD_cut (bag_rising K) D q)
              clear hi hlt2 HPRS
              have HRX : Hid (∀ W, Only [] wr W → RowP W g7 a7 c7 (bag K) ∧ (bag K ≠ [] → g7 < W.heap.size) ∧ KeysIn W lb2 lo2 D ∧ Only [] w W) := Lib.hid (fun W o => by
                have h := HST.out W (HXQ.out.trans (o.mono (by simp)))
                exact ⟨h.2.1, h.2.2.1, h.2.2.2.1, h.2.2.2.2⟩)
              have HTX := Lib.hid (fun W (o : Only [] wr W) => HTW.out.plain o)
              obtain ⟨wx, hwx⟩ : ∃ x, x = wr := ⟨_, rfl⟩
              subst hwx
              clear HTW HXQ HST
              go_wp2_with fail
              go_loopg [7, 26] i (fun gm s7 s26 wq => ∃ (j g c : Nat) (a : Option Addr), j + gm = i ∧ s26 = .int .i64 (j : Nat) ∧ s7 = .slice a (cut (bag K) (D.take j)).length c ∧ RowP wq g a c (cut (bag K) (D.take j)) ∧ (cut (bag K) (D.take j) ≠ [] → g < wq.heap.size) ∧ Only [] wx wq)
              case atStart => exact ⟨0, g7, c7, a7, by omega, rfl, by rw [← HBL.out]; rfl, (HRX.out wx (Only.refl _ _)).1, (HRX.out wx (Only.refl _ _)).2.1, Only.refl _ _⟩
              case round =>
                obtain ⟨j, g, c, a, hj, rfl, rfl, hR, hg, hXq⟩ := hrel
                have HJ := Lib.hid hj
                obtain ⟨hb7, _, hky, hXw⟩ := HRX.out _ hXq
                have HXQ := Lib.hid hXq
                have HXW2 := Lib.hid hXw
                have hcl := HBG.out (D.take j)
                by_cases hlt3 : j < i
                --ARM6
                · obtain ⟨y, hy⟩ : ∃ y, D[j]? = some y := ⟨_, List.getElem?_eq_getElem (by have := HDL.out; omega)⟩
                  have y0 := hky j y hy
                  obtain rfl := HAD2.out (by omega)
                  have HWO := Lib.hid (law_without (k := y) hR (by omega))
                  have HNX := Lib.hid (cut_take (l := bag K) hy)
                  obtain ⟨cl, hcl2⟩ : ∃ u, (cut (bag K) (D.take j)).length = u := ⟨_, rfl⟩
                  rw [hcl2] at HWO ⊢
                  have hji : (j : Int) < i := by omega
                  clear hj hR hg hb7 hky hXq hXw hcl hcl2 hy
                  go_wp2_with fail
                  refine HWO.out.mono ?_
                  rintro e w5 ⟨v5, rfl, hown5, hX5⟩
                  obtain ⟨g5, a5, c5, rfl, hR5, _, hg5, _⟩ := rowp_own hown5
                  have HR5 := Lib.hid (And.intro hR5 hg5)
                  have HX5 := Lib.hid (HXQ.out.trans hX5)
                  clear hown5 hR5 hg5 hX5 y0
                  go_wp2_with fail
                  go_roundg (gk - 1)
                  case measure => have := HJ.out; omega
                  case rel => exact ⟨j + 1, g5, c5, a5, by have := HJ.out; omega, by go_num, by rw [HNX.out], by rw [HNX.out]; exact HR5.out.1, by rw [HNX.out]; exact HR5.out.2, HX5.out⟩
                --END6
                · have hji : j = i := by omega
                  subst hji
                  rw [List.take_of_length_le (by rw [HDL.out]; exact Nat.le_refl _)] at hR hg hcl ⊢
                  have hTT := HTX.out _ hXq
                  have h0 := HPZ.out 0 (by omega)
                  have h1 := HPZ.out 1 (by omega)
                  obtain ⟨Z, hZ⟩ : ∃ Z, cut (bag K) D = Z := ⟨_, rfl⟩
                  rw [hZ] at hR hg hcl h0 h1 ⊢
                  have HT0 := Lib.hid (fun W (o : Only [] wr W) => law_tells (lo := 0) (hi := 4294967295) (hTT.tw.tr.plain o) hTT.tw.rx (h0.symm ▸ hR.only o (by simp)) (fun h => Nat.lt_of_lt_of_le (hg (h0 ▸ h)) o.size) (by rw [h0]; omega))
                  have HT1 := Lib.hid (fun W (o : Only [] wr W) => law_tells (lo := 0) (hi := 4294967295) (hTT.tw.tr.plain o) hTT.tw.rz (h1.symm ▸ hR.only o (by simp)) (fun h => Nat.lt_of_lt_of_le (hg (h1 ▸ h)) o.size) (by rw [h1]; omega))
                  rw [h0] at HT0
                  rw [h1] at HT1
                  have HPF := Lib.hid (fun W (o : Only [] wr W) => pool_faults A 4096 S0 t0 fs0 0 W (hTT.tw.tr.plain o).pool)
                  have HPR := Lib.hid (fun W (o : Only [] wr W) => pool_free A 4096 S0 t0 fs0 0 W (hTT.tw.tr.plain o).pool)
                  have hcnt := hTT.tw.count
                  have hs0 := slots_prs (oo0 0)
                  have hs1 := slots_prs (oo0 1)
                  rw [h0] at hs0
                  rw [h1] at hs1
                  obtain ⟨zl, hzl⟩ : ∃ u, Z.length = u := ⟨_, rfl⟩
                  rw [hzl] at HT0 HT1 hs0 hs1 hcl ⊢
                  obtain ⟨ns, hns⟩ : ∃ u, (slotsO (oo0 0)).length = u := ⟨_, rfl⟩
                  obtain ⟨fl, hfl⟩ : ∃ u, fs0.length = u := ⟨_, rfl⟩
                  rw [hns] at hs0 hcnt
                  rw [hfl] at HPR hcnt
                  have hc0 := hTT.blk.cell 0 rfl
                  have hc1 := hTT.blk.cell 1 rfl
                  obtain ⟨r0, hr0⟩ : ∃ u, rootOf S0 (oo0 0) = u := ⟨_, rfl⟩
                  obtain ⟨r1, hr1⟩ : ∃ u, rootOf S0 (oo0 1) = u := ⟨_, rfl⟩
                  have hc0' : wr.cell? ⟨rb, 0, none⟩ = some (.int .i64 r0) := by rw [← hr0]; exact hc0
                  have hc1' : wr.cell? ⟨rb, 1, none⟩ = some (.int .i64 r1) := by rw [← hr1]; exact hc1
                  rw [hr0] at HT0
                  rw [hr1] at HT1
                  have hw1 : IntKind.i64.wrap (2 * (zl : Int)) = 2 * (zl : Int) := IntWalk.i64_in _ ⟨by omega, by omega⟩
                  have hw2 : IntKind.i64.wrap (2 * (zl : Int) - 1) = 2 * (zl : Int) - 1 := IntWalk.i64_in _ ⟨by omega, by omega⟩
                  have hw3 : IntKind.i64.wrap (2 * (ns : Int)) = 2 * (ns : Int) := IntWalk.i64_in _ ⟨by omega, by omega⟩
                  have hw4 : IntKind.i64.wrap (4096 - 2 * (ns : Int)) = (fl : Int) := by rw [IntWalk.i64_in _ ⟨by omega, by omega⟩]; omega
                  clear hj hR hg hb7 hky hXq hXw hcl hlt3 hTT h0 h1 hcnt hs1 hns hfl hc0 hc1 hr0 hr1
                  go_upto_region 51 with fail
                  go_cut [27, 28] (fun s27 s28 wz => ∃ b1 b2, s27 = .pointer (some ⟨b1, 0, none⟩) ∧ s28 = .pointer (some ⟨b2, 0, none⟩) ∧ Blk wz b1 #[.int .i64 r0, .slice a zl c] 33 ∧ Blk wz b2 #[.int .i64 r1, .slice a zl c] 33 ∧ Only [] wr wz)
                  case first =>
                    have HSR : Hid (∀ W, Only [] wr W → W.cell? ⟨rb, 0, none⟩ = some (.int .i64 r0) ∧ W.cell? ⟨rb, 1, none⟩ = some (.int .i64 r1)) := Lib.hid (fun W o => ⟨keep_cell o hc0', keep_cell o hc1'⟩)
                    obtain ⟨d0, d1⟩ := HSR.out wr.drew (Only.drew _ _)
                    clear hc0' hc1'
                    go_region_held3 (fun W => W.cell? ⟨rb, 0, none⟩ = some (.int .i64 r0) ∧ W.cell? ⟨rb, 1, none⟩ = some (.int .i64 r1))
                      (first | with_reducible exact ⟨d0, d1⟩ | exact HSR.out _ ((Only.alloc [] wr _).trans (Only.drew _ _)) | exact HSR.out _ (((Only.alloc [] wr _).trans (Only.alloc _ _ _)).trans (Only.drew _ _)))
                      (fail)
                    all_goals go_wp2_with fail
                    all_goals go_meet
                    · exact ⟨_, _, rfl, rfl, (two_new2 _ _ _ _ _).1, (two_new2 _ _ _ _ _).2.1, (two_new2 _ _ _ _ _).2.2⟩
                    · exact ⟨_, _, rfl, rfl, (two_new2 _ _ _ _ _).2.1, (two_new2 _ _ _ _ _).1, (two_new2 _ _ _ _ _).2.2⟩
                  case rest =>
                    obtain ⟨b1, b2, rfl, rfl, hB1, hB2, hXz⟩ := hcut
                    obtain ⟨wz, hwz⟩ : ∃ x, x = wc := ⟨_, rfl⟩
                    subst hwz
                    have v10 := hB1.cell 0 rfl
                    have v11 := hB1.cell 1 rfl
                    have HB2 := Lib.hid hB2
                    have HXZ := Lib.hid hXz
                    clear hB1 hB2 hXz hc0' hc1'
                    go_wp2_with fail
                    refine (HT0.out wz HXZ.out).mono ?_
                    rintro e we ⟨rfl, hXe⟩
                    have v20 := (HB2.out.only hXe (by simp)).cell 0 rfl
                    have v21 := (HB2.out.only hXe (by simp)).cell 1 rfl
                    have HXE := Lib.hid (HXZ.out.trans hXe)
                    clear hXe v10 v11
                    go_wp2_with fail
                    refine (HT1.out we HXE.out).mono ?_
                    rintro e wf ⟨rfl, hXf⟩
                    have HXF := Lib.hid (HXE.out.trans hXf)
                    clear hXf v20 v21
                    go_wp2_with fail
                    refine (HPF.out wf HXF.out).mono ?_
                    rintro e wg ⟨rfl, rfl⟩
                    go_wp2_with fail
                    refine (HPR.out wf HXF.out).mono ?_
                    rintro e wg ⟨v, rfl, hown, hXg⟩
                    obtain ⟨adf, capf, rfl⟩ := own_slice_any hown
                    have HXG := Lib.hid (HXF.out.trans hXg)
                    clear hown hXg
                    go_wp2_with fail
                    go_ret
                    exact ⟨rfl, HXW2.out.trans HXG.out⟩

end Go.Proofs.Ytacegkjobfeiiaa

