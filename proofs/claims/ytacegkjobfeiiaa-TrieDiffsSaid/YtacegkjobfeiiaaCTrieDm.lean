/- Two sides beside one another: two leaves; two nodes of one span: as a call. Conditions: all stands in memory as Dcx says. -/
import Derived.Test.YtacegkjobfeiiaaCSideY
set_option linter.unusedVariables false
set_option linter.unusedSimpArgs false
set_option linter.unusedSectionVars false
set_option linter.unnecessarySimpa false
namespace Go.Proofs.Ytacegkjobfeiiaa
open Go.RowKit

set_option maxRecDepth 100000 in
set_option maxHeartbeats 4000000 in
theorem beside_leaves {A : PA} {n : Nat} {S : Nat → Sl} {t : Int} {fs : List Nat} {fa : Int} {tb db eb wb xb ob nb base sa sb : Nat} {v : Value} {L : List Ch2} {w : World} {x y : Tr} (h : Dcx A n S t fs fa tb db eb wb xb ob nb base v L w) (Rx : Rep n S x) (Ry : Rep n S y) (wx : x.wf) (wy : y.wf) (hA : SideOf w sa S x true) (hB : SideOf w sb S y false) (hl : L.length + x.cnt + y.cnt ≤ 1000000) (pa : Apt A tb db eb wb xb ob nb v sa) (pb : Apt A tb db eb wb xb ob nb v sb) (hab : sa ≠ sb) (hh : hnd S x ≠ hnd S y) (hn1 : ¬ x.hi < y.lo) (hn2 : ¬ y.hi < x.lo) {i j : Nat} {k u u2 : Int} (hxe : x = .leaf i k u) (hye : y = .leaf j k u2) :
    Calls Try.prog 33 #[.pointer (some ⟨db, 0, none⟩), .pointer (some ⟨sa, 0, none⟩), .pointer (some ⟨sb, 0, none⟩)] w (MorePost eb wb xb ob nb base v L (md x.pairs y.pairs) [sa, sb] w) := by
  have hpx := hnd_pos Rx
  have hpy := hnd_pos Ry
  obtain ⟨tx, vx, fx, hsx, hmx, hex, hspx, xp, xf, xl, xr, xc, htx, hfx, hlx⟩ := shape_facts S wx
  obtain ⟨ty, vy, fy, hsy, hmy, hey, hspy, yp, yf, yl, yr, yc, hty, hfy, hly⟩ := shape_facts S wy
  have HSX := Lib.hid hsx
  have HSY := Lib.hid hsy
  obtain ⟨xlo, hxlo⟩ : ∃ u, x.lo = u := ⟨_, rfl⟩
  obtain ⟨xhi, hxhi⟩ : ∃ u, x.hi = u := ⟨_, rfl⟩
  obtain ⟨ylo, hylo⟩ : ∃ u, y.lo = u := ⟨_, rfl⟩
  obtain ⟨yhi, hyhi⟩ : ∃ u, y.hi = u := ⟨_, rfl⟩
  rw [hxlo, hxhi] at hspx
  rw [hylo, hyhi] at hspy
  have HPX := Lib.hid hspx
  have HPY := Lib.hid hspy
  have HFX := Lib.hid hfx
  have HFY := Lib.hid hfy
  have HLX := Lib.hid hlx
  have HLY := Lib.hid hly
  have HXB := Lib.hid (show x.lo = xlo ∧ x.hi = xhi ∧ y.lo = ylo ∧ y.hi = yhi from ⟨hxlo, hxhi, hylo, hyhi⟩)
  have HIN := Lib.hid (show Rep n S x ∧ Rep n S y ∧ x.wf ∧ y.wf ∧ L.length + x.cnt + y.cnt ≤ 1000000 ∧ Apt A tb db eb wb xb ob nb v sa ∧ Apt A tb db eb wb xb ob nb v sb ∧ sa ≠ sb from ⟨Rx, Ry, wx, wy, hl, pa, pb, hab⟩)
  have HP0 := Lib.hid (Pg.start (X := [sa, sb]) h)
  have HA0 := Lib.hid hA
  have HB0 := Lib.hid hB
  have HNA := Lib.hid (show ¬ x.hi < y.lo ∧ ¬ y.hi < x.lo from ⟨hn1, hn2⟩)
  have hc1 : decide (xhi < ylo) = false := by simp; omega
  have hc2 : decide (yhi < xlo) = false := by simp; omega
  clear hn1 hn2
  have hlx2 := hlx _ _ _ hxe
  have HXE := Lib.hid hxe
  have hbx : x.isLeaf = true := by rw [hxe]; rfl
  rw [hbx] at htx
  simp only [Bool.not_true] at htx
  clear hbx hxe
  have hly2 := hly _ _ _ hye
  have HYE := Lib.hid hye
  have hby : y.isLeaf = true := by rw [hye]; rfl
  rw [hby] at hty
  simp only [Bool.not_true] at hty
  clear hby hye
  obtain ⟨_, _, _, a1, _⟩ := hA
  obtain ⟨_, _, _, b1, _⟩ := hB
  have s0 := Blk.cell a1 0 rfl
  have t0 := Blk.cell b1 0 rfl
  obtain ⟨hx, hhx⟩ : ∃ u, hnd S x = u := ⟨_, rfl⟩
  obtain ⟨hy, hhy⟩ : ∃ u, hnd S y = u := ⟨_, rfl⟩
  rw [hhx] at hh hpx s0
  rw [hhy] at hh hpy t0
  have e1 : (hx == hy) = false := by simpa using hh
  have e2 : (hx == 0) = false := by simp; omega
  have e3 : (hy == 0) = false := by simp; omega
  have HHX := Lib.hid hhx
  have HHY := Lib.hid hhy
  clear h Rx Ry wx wy hl pa pb hab hh hpx hpy hsx hsy hspx hspy hxlo hxhi hylo hyhi a1 b1 hhx hhy hfx hfy hlx hly
  go_enter Try.func33, Try.ntmps33
  go_upto_region 1 with fail
  go_quiet (fail)
  go_upto_if 15 with fail
  refine wp_name (fun w1 => Only [] w w1 ∧ w1.cell? ⟨sa, 0, none⟩ = some (.int .i64 hx) ∧ w1.cell? ⟨sb, 0, none⟩ = some (.int .i64 hy)) ⟨Only.drewN _ _ _, s0, t0⟩ ?_
  clear s0 t0
  rintro w1 ⟨hO1, s0, t0⟩
  have HP1 := Lib.hid (HP0.out.plain hO1)
  have HB1 := Lib.hid (HB0.out.plain hO1)
  have HSEA := Lib.hid (diff_see HP1.out.dcx.tr HIN.out.1 HIN.out.2.2.1 HP1.out.dcx.df (HA0.out.plain hO1))
  have HG1 : Hid (Sides w1 [sa]) := Lib.hid (fun k hk => by simp at hk; subst hk; exact (HA0.out.plain hO1).sides)
  clear hO1 HP0 HA0 HB0
  go_wp2_with fail
  refine HSEA.out.mono ?_
  rintro e w2 ⟨rfl, ba, hA2, hX2⟩
  have HP2 := Lib.hid (HP1.out.write hX2 (by intro k hk; simp at hk; subst hk; exact ⟨Or.inl (by simp), HIN.out.2.2.2.2.2.1⟩))
  have hB2 := HB1.out.keep HP1.out.dcx.got HG1.out (by simp only [List.mem_append, List.mem_singleton]; rintro (hm | hm); exact HIN.out.2.2.2.2.2.2.2 hm.symm; exact HIN.out.2.2.2.2.2.2.1.g hm) (hX2.mono (by intro k hk; exact List.mem_append_left _ hk))
  have HA2 := Lib.hid hA2
  have HG2 : Hid (Sides w2 [sb]) := Lib.hid (fun k hk => by simp at hk; subst hk; exact hB2.sides)
  have HSEB := Lib.hid (diff_see HP2.out.dcx.tr HIN.out.2.1 HIN.out.2.2.2.1 HP2.out.dcx.df hB2)
  clear hA2 hX2 hB2 HSEA HG1 HP1 HB1
  go_wp2_with fail
  refine HSEB.out.mono ?_
  rintro e w3 ⟨rfl, bb, hB3, hX3⟩
  have HP3 := Lib.hid (HP2.out.write hX3 (by intro k hk; simp at hk; subst hk; exact ⟨Or.inl (by simp), HIN.out.2.2.2.2.2.2.1⟩))
  have hA3 := HA2.out.keep HP2.out.dcx.got HG2.out (by simp only [List.mem_append, List.mem_singleton]; rintro (hm | hm); exact HIN.out.2.2.2.2.2.2.2 hm; exact HIN.out.2.2.2.2.2.1.g hm) (hX3.mono (by intro k hk; exact List.mem_append_left _ hk))
  have HA3 := Lib.hid hA3
  have HB3 := Lib.hid hB3
  obtain ⟨alo, ahi, a1, _, _, _, a2⟩ := hA3
  rw [HSX.out] at a2
  have s3 := Blk.cell a1 3 rfl
  have u1 := a2.cell 1 rfl
  clear s0 t0 hX3 HSEB HG2 HP2 HA2 a1 a2 hB3
  go_wp2_with fail
  refine (HPX.out _).mono ?_
  rintro e w4 ⟨rfl, hX4⟩
  have HP4 := Lib.hid (HP3.out.plain hX4)
  have HA4 := Lib.hid (HA3.out.plain hX4)
  have hB4 := HB3.out.plain hX4
  have HB4 := Lib.hid hB4
  obtain ⟨blo, bhi, b1, _, _, _, b2⟩ := hB4
  rw [HSY.out] at b2
  have s3 := Blk.cell b1 3 rfl
  have u1 := b2.cell 1 rfl
  clear hX4 HP3 HA3 HB3 b1 b2
  go_wp2_with fail
  refine (HPY.out _).mono ?_
  rintro e w5 ⟨rfl, hX5⟩
  have HP5 := Lib.hid (HP4.out.plain hX5)
  have HA5 := Lib.hid (HA4.out.plain hX5)
  have HB5 := Lib.hid (HB4.out.plain hX5)
  clear hX5 HP4 HA4 HB4 s3 u1 hmx hex hmy hey
  obtain ⟨alo, ahi, a1, _, _, _, a2⟩ := HA5.out
  rw [HSX.out] at a2
  have s3 := Blk.cell a1 3 rfl
  have u1 := a2.cell 1 rfl
  clear a1 a2
  go_upto_region 16 with fail
  refine wp_name (fun w6 => Pg A n S t fs fa tb db eb wb xb ob nb base v L [sa, sb] w [] v w6 ∧ SeenAt w6 sa ba S x true ∧ SeenAt w6 sb bb S y false ∧ Blk w6 w5.heap.size #[.int .i64 xp, .int .i64 xf, .int .i64 xl, .int .i64 xr, .int .i64 xc] 135) ⟨HP5.out.plain (Only.alloc _ _ _), HA5.out.plain (Only.alloc _ _ _), HB5.out.plain (Only.alloc _ _ _), Blk.new _ _ _⟩ ?_
  have HIX : Hid (Apt A tb db eb wb xb ob nb v w5.heap.size) := Lib.hid (HP5.out.dcx.fresh (Nat.le_refl _))
  generalize w5.heap.size = ix at HIX ⊢
  clear s3 u1 htx HP5 HA5 HB5
  rintro w6 ⟨hP6, hA6, hB6, hX6⟩
  have HP6 := Lib.hid hP6
  have HA6 := Lib.hid hA6
  have HX6 := Lib.hid hX6
  have HB6 := Lib.hid hB6
  clear hP6 hA6 hB6 hX6
  obtain ⟨blo, bhi, b1, _, _, _, b2⟩ := HB6.out
  rw [HSY.out] at b2
  have s3 := Blk.cell b1 3 rfl
  have u1 := b2.cell 1 rfl
  clear b1 b2
  go_upto_region 17 with fail
  refine wp_name (fun w7 => Pg A n S t fs fa tb db eb wb xb ob nb base v L [sa, sb] w [] v w7 ∧ SeenAt w7 sa ba S x true ∧ SeenAt w7 sb bb S y false ∧ Blk w7 ix #[.int .i64 xp, .int .i64 xf, .int .i64 xl, .int .i64 xr, .int .i64 xc] 135 ∧ Blk w7 w6.heap.size #[.int .i64 yp, .int .i64 yf, .int .i64 yl, .int .i64 yr, .int .i64 yc] 135) ⟨HP6.out.plain (Only.alloc _ _ _), HA6.out.plain (Only.alloc _ _ _), HB6.out.plain (Only.alloc _ _ _), HX6.out.alloc _, Blk.new _ _ _⟩ ?_
  have HIY : Hid (Apt A tb db eb wb xb ob nb v w6.heap.size) := Lib.hid (HP6.out.dcx.fresh (Nat.le_refl _))
  generalize w6.heap.size = iy at HIY ⊢
  clear s3 u1 hty HP6 HA6 HB6 HX6
  rintro w7 ⟨hP7, hA7, hB7, hX7, hY7⟩
  have HP7 := Lib.hid hP7
  have HA7 : Hid (Hb A tb db eb wb xb ob nb S sa ba ix xp xf xl xr xc x true v w7) := Lib.hid ⟨hA7, hX7, HIN.out.2.2.2.2.2.1, HIX.out.g⟩
  have HB7 : Hid (Hb A tb db eb wb xb ob nb S sb bb iy yp yf yl yr yc y false v w7) := Lib.hid ⟨hB7, hY7, HIN.out.2.2.2.2.2.2.1, HIY.out.g⟩
  clear hP7 hA7 hB7 hX7 hY7
  go_upto_region 18 with fail
  have hsA : w7.drew.cell? ⟨sa, 3, none⟩ = some (.pointer (some ⟨ba, 0, none⟩)) ∧ w7.drew.cell? ⟨ba, 1, none⟩ = some (.iface tx vx) ∧ w7.drew.cell? ⟨sb, 3, none⟩ = some (.pointer (some ⟨bb, 0, none⟩)) ∧ w7.drew.cell? ⟨bb, 1, none⟩ = some (.iface ty vy) := by
    obtain ⟨_, _, a1, _, _, _, a2⟩ := HA7.out.see
    obtain ⟨_, _, b1, _, _, _, b2⟩ := HB7.out.see
    rw [HSX.out] at a2
    rw [HSY.out] at b2
    exact ⟨Blk.cell a1 3 rfl, a2.cell 1 rfl, Blk.cell b1 3 rfl, b2.cell 1 rfl⟩
  obtain ⟨s3, u1, s4, y1⟩ := hsA
  have HKP : Hid (∀ w', Only (gotB eb wb xb ob nb v) w7.drew w' → w'.cell? ⟨sa, 3, none⟩ = some (.pointer (some ⟨ba, 0, none⟩)) ∧ w'.cell? ⟨ba, 1, none⟩ = some (.iface tx vx) ∧ w'.cell? ⟨sb, 3, none⟩ = some (.pointer (some ⟨bb, 0, none⟩)) ∧ w'.cell? ⟨bb, 1, none⟩ = some (.iface ty vy)) := by
    refine Lib.hid fun w' o => ?_
    have hG := (HP7.out.plain (Only.drew _ _)).dcx.got
    have hA8 := (HA7.out.plain (Only.drew _ _)).keep hG (Y := []) (fun k hk => by cases hk) (by simp) o (fun b _ hb => hb)
    have hB8 := (HB7.out.plain (Only.drew _ _)).keep hG (Y := []) (fun k hk => by cases hk) (by simp) o (fun b _ hb => hb)
    obtain ⟨_, _, a1, _, _, _, a2⟩ := hA8.see
    obtain ⟨_, _, b1, _, _, _, b2⟩ := hB8.see
    rw [HSX.out] at a2
    rw [HSY.out] at b2
    exact ⟨Blk.cell a1 3 rfl, a2.cell 1 rfl, Blk.cell b1 3 rfl, b2.cell 1 rfl⟩
  have HCL : Hid (Calls Try.prog 61 #[.pointer (some ⟨db, 0, none⟩), .agg #[.int .i64 k, .int .i64 u], .agg #[.int .i64 k, .int .i64 u2]] w7.drew (MorePost eb wb xb ob nb base v (L ++ []) (if u = u2 then [] else [.chg k u u2]) [] w7.drew)) := by
    have hP8 := HP7.out.plain (Only.drew [] w7)
    refine Lib.hid ?_
    by_cases he : u = u2
    · subst he
      rw [if_pos rfl]
      refine leaves_same.mono ?_
      rintro e w8 ⟨rfl, hX8⟩
      exact ⟨rfl, v, by rw [List.append_nil]; exact (hP8.plain hX8).dcx.got, hX8.mono (by simp), fun b hb => Or.inl hb⟩
    · rw [if_neg he]
      exact leaves_differ hP8.dcx.got (by have := HIN.out.2.2.2.2.1; simp; omega) hP8.dcx.base hP8.dcx.df he hP8.dcx.dn
  go_region_held3 (fun w' => w'.cell? ⟨sa, 3, none⟩ = some (.pointer (some ⟨ba, 0, none⟩)) ∧ w'.cell? ⟨ba, 1, none⟩ = some (.iface tx vx) ∧ w'.cell? ⟨sb, 3, none⟩ = some (.pointer (some ⟨bb, 0, none⟩)) ∧ w'.cell? ⟨bb, 1, none⟩ = some (.iface ty vy))
    (first | exact ⟨s3, u1, s4, y1⟩ | exact HKP.out _ hX8)
    (first | (go_at_call 61; refine HCL.out.mono ?_; rintro e w8 hm8; have hX8 := hm8.2.choose_spec.2.1; obtain ⟨rfl, v8, hP8, _, _⟩ := (HP7.out.plain (Only.drew [] w7)).more hm8 (by simp)))
  all_goals (
    have HP8 := Lib.hid hP8
    clear hm8 hX8 hP8 s3 u1 s4 y1 hlx2 hly2
    go_wp2_with fail
    go_ret
    have := HP8.out.done
    rw [List.nil_append] at this
    rw [HXE.out, HYE.out, md_leaves]
    exact this)

set_option maxRecDepth 100000 in
set_option maxHeartbeats 4000000 in
theorem beside_span {A : PA} {n : Nat} {S : Nat → Sl} {t : Int} {fs : List Nat} {fa : Int} {tb db eb wb xb ob nb base sa sb : Nat} {v : Value} {L : List Ch2} {w : World} {x y : Tr} (h : Dcx A n S t fs fa tb db eb wb xb ob nb base v L w) (Rx : Rep n S x) (Ry : Rep n S y) (wx : x.wf) (wy : y.wf) (hA : SideOf w sa S x true) (hB : SideOf w sb S y false) (hl : L.length + x.cnt + y.cnt ≤ 1000000) (pa : Apt A tb db eb wb xb ob nb v sa) (pb : Apt A tb db eb wb xb ob nb v sb) (hab : sa ≠ sb) (hh : hnd S x ≠ hnd S y) (hn1 : ¬ x.hi < y.lo) (hn2 : ¬ y.hi < x.lo) (IH : ∀ x2 y2 : Tr, x2.cnt + y2.cnt < x.cnt + y.cnt → BesideOk A n S t fs fa tb db eb wb xb ob nb base x2 y2) {i j p q : Nat} {f g : Int} {l r l2 r2 : Tr} (hxe : x = .node i p f l r) (hye : y = .node j q g l2 r2) (hsm : x.lo = y.lo ∧ x.hi = y.hi) :
    Calls Try.prog 33 #[.pointer (some ⟨db, 0, none⟩), .pointer (some ⟨sa, 0, none⟩), .pointer (some ⟨sb, 0, none⟩)] w (MorePost eb wb xb ob nb base v L (md x.pairs y.pairs) [sa, sb] w) := by
  have hpx := hnd_pos Rx
  have hpy := hnd_pos Ry
  obtain ⟨tx, vx, fx, hsx, hmx, hex, hspx, xp, xf, xl, xr, xc, htx, hfx, hlx⟩ := shape_facts S wx
  obtain ⟨ty, vy, fy, hsy, hmy, hey, hspy, yp, yf, yl, yr, yc, hty, hfy, hly⟩ := shape_facts S wy
  have HSX := Lib.hid hsx
  have HSY := Lib.hid hsy
  obtain ⟨xlo, hxlo⟩ : ∃ u, x.lo = u := ⟨_, rfl⟩
  obtain ⟨xhi, hxhi⟩ : ∃ u, x.hi = u := ⟨_, rfl⟩
  obtain ⟨ylo, hylo⟩ : ∃ u, y.lo = u := ⟨_, rfl⟩
  obtain ⟨yhi, hyhi⟩ : ∃ u, y.hi = u := ⟨_, rfl⟩
  rw [hxlo, hxhi] at hspx
  rw [hylo, hyhi] at hspy
  have HPX := Lib.hid hspx
  have HPY := Lib.hid hspy
  have HFX := Lib.hid hfx
  have HFY := Lib.hid hfy
  have HLX := Lib.hid hlx
  have HLY := Lib.hid hly
  have HXB := Lib.hid (show x.lo = xlo ∧ x.hi = xhi ∧ y.lo = ylo ∧ y.hi = yhi from ⟨hxlo, hxhi, hylo, hyhi⟩)
  have HIN := Lib.hid (show Rep n S x ∧ Rep n S y ∧ x.wf ∧ y.wf ∧ L.length + x.cnt + y.cnt ≤ 1000000 ∧ Apt A tb db eb wb xb ob nb v sa ∧ Apt A tb db eb wb xb ob nb v sb ∧ sa ≠ sb from ⟨Rx, Ry, wx, wy, hl, pa, pb, hab⟩)
  have HP0 := Lib.hid (Pg.start (X := [sa, sb]) h)
  have HA0 := Lib.hid hA
  have HB0 := Lib.hid hB
  have HNA := Lib.hid (show ¬ x.hi < y.lo ∧ ¬ y.hi < x.lo from ⟨hn1, hn2⟩)
  have hc1 : decide (xhi < ylo) = false := by simp; omega
  have hc2 : decide (yhi < xlo) = false := by simp; omega
  clear hn1 hn2
  have IH := Lib.hid IH
  have HSM := Lib.hid hsm
  clear hsm
  have HXE := Lib.hid (show x = .node i p f l r ∧ (xp = (p : Nat) ∧ xf = f ∧ xl = hnd S l ∧ xr = hnd S r ∧ xc = (x.cnt : Nat)) from ⟨hxe, hfx _ _ _ _ _ hxe⟩)
  have hbx : x.isLeaf = false := by rw [hxe]; rfl
  rw [hbx] at htx
  simp only [Bool.not_false] at htx
  clear hbx hxe
  have HYE := Lib.hid (show y = .node j q g l2 r2 ∧ (yp = (q : Nat) ∧ yf = g ∧ yl = hnd S l2 ∧ yr = hnd S r2 ∧ yc = (y.cnt : Nat)) from ⟨hye, hfy _ _ _ _ _ hye⟩)
  have hby : y.isLeaf = false := by rw [hye]; rfl
  rw [hby] at hty
  simp only [Bool.not_false] at hty
  clear hby hye
  obtain ⟨_, _, _, a1, _⟩ := hA
  obtain ⟨_, _, _, b1, _⟩ := hB
  have s0 := Blk.cell a1 0 rfl
  have t0 := Blk.cell b1 0 rfl
  obtain ⟨hx, hhx⟩ : ∃ u, hnd S x = u := ⟨_, rfl⟩
  obtain ⟨hy, hhy⟩ : ∃ u, hnd S y = u := ⟨_, rfl⟩
  rw [hhx] at hh hpx s0
  rw [hhy] at hh hpy t0
  have e1 : (hx == hy) = false := by simpa using hh
  have e2 : (hx == 0) = false := by simp; omega
  have e3 : (hy == 0) = false := by simp; omega
  have HHX := Lib.hid hhx
  have HHY := Lib.hid hhy
  clear h Rx Ry wx wy hl pa pb hab hh hpx hpy hsx hsy hspx hspy hxlo hxhi hylo hyhi a1 b1 hhx hhy hfx hfy hlx hly
  go_enter Try.func33, Try.ntmps33
  go_upto_region 1 with fail
  go_quiet (fail)
  go_upto_if 15 with fail
  refine wp_name (fun w1 => Only [] w w1 ∧ w1.cell? ⟨sa, 0, none⟩ = some (.int .i64 hx) ∧ w1.cell? ⟨sb, 0, none⟩ = some (.int .i64 hy)) ⟨Only.drewN _ _ _, s0, t0⟩ ?_
  clear s0 t0
  rintro w1 ⟨hO1, s0, t0⟩
  have HP1 := Lib.hid (HP0.out.plain hO1)
  have HB1 := Lib.hid (HB0.out.plain hO1)
  have HSEA := Lib.hid (diff_see HP1.out.dcx.tr HIN.out.1 HIN.out.2.2.1 HP1.out.dcx.df (HA0.out.plain hO1))
  have HG1 : Hid (Sides w1 [sa]) := Lib.hid (fun k hk => by simp at hk; subst hk; exact (HA0.out.plain hO1).sides)
  clear hO1 HP0 HA0 HB0
  go_wp2_with fail
  refine HSEA.out.mono ?_
  rintro e w2 ⟨rfl, ba, hA2, hX2⟩
  have HP2 := Lib.hid (HP1.out.write hX2 (by intro k hk; simp at hk; subst hk; exact ⟨Or.inl (by simp), HIN.out.2.2.2.2.2.1⟩))
  have hB2 := HB1.out.keep HP1.out.dcx.got HG1.out (by simp only [List.mem_append, List.mem_singleton]; rintro (hm | hm); exact HIN.out.2.2.2.2.2.2.2 hm.symm; exact HIN.out.2.2.2.2.2.2.1.g hm) (hX2.mono (by intro k hk; exact List.mem_append_left _ hk))
  have HA2 := Lib.hid hA2
  have HG2 : Hid (Sides w2 [sb]) := Lib.hid (fun k hk => by simp at hk; subst hk; exact hB2.sides)
  have HSEB := Lib.hid (diff_see HP2.out.dcx.tr HIN.out.2.1 HIN.out.2.2.2.1 HP2.out.dcx.df hB2)
  clear hA2 hX2 hB2 HSEA HG1 HP1 HB1
  go_wp2_with fail
  refine HSEB.out.mono ?_
  rintro e w3 ⟨rfl, bb, hB3, hX3⟩
  have HP3 := Lib.hid (HP2.out.write hX3 (by intro k hk; simp at hk; subst hk; exact ⟨Or.inl (by simp), HIN.out.2.2.2.2.2.2.1⟩))
  have hA3 := HA2.out.keep HP2.out.dcx.got HG2.out (by simp only [List.mem_append, List.mem_singleton]; rintro (hm | hm); exact HIN.out.2.2.2.2.2.2.2 hm; exact HIN.out.2.2.2.2.2.1.g hm) (hX3.mono (by intro k hk; exact List.mem_append_left _ hk))
  have HA3 := Lib.hid hA3
  have HB3 := Lib.hid hB3
  obtain ⟨alo, ahi, a1, _, _, _, a2⟩ := hA3
  rw [HSX.out] at a2
  have s3 := Blk.cell a1 3 rfl
  have u1 := a2.cell 1 rfl
  clear s0 t0 hX3 HSEB HG2 HP2 HA2 a1 a2 hB3
  go_wp2_with fail
  refine (HPX.out _).mono ?_
  rintro e w4 ⟨rfl, hX4⟩
  have HP4 := Lib.hid (HP3.out.plain hX4)
  have HA4 := Lib.hid (HA3.out.plain hX4)
  have hB4 := HB3.out.plain hX4
  have HB4 := Lib.hid hB4
  obtain ⟨blo, bhi, b1, _, _, _, b2⟩ := hB4
  rw [HSY.out] at b2
  have s3 := Blk.cell b1 3 rfl
  have u1 := b2.cell 1 rfl
  clear hX4 HP3 HA3 HB3 b1 b2
  go_wp2_with fail
  refine (HPY.out _).mono ?_
  rintro e w5 ⟨rfl, hX5⟩
  have HP5 := Lib.hid (HP4.out.plain hX5)
  have HA5 := Lib.hid (HA4.out.plain hX5)
  have HB5 := Lib.hid (HB4.out.plain hX5)
  clear hX5 HP4 HA4 HB4 s3 u1 hmx hex hmy hey
  obtain ⟨alo, ahi, a1, _, _, _, a2⟩ := HA5.out
  rw [HSX.out] at a2
  have s3 := Blk.cell a1 3 rfl
  have u1 := a2.cell 1 rfl
  clear a1 a2
  go_upto_region 16 with fail
  refine wp_name (fun w6 => Pg A n S t fs fa tb db eb wb xb ob nb base v L [sa, sb] w [] v w6 ∧ SeenAt w6 sa ba S x true ∧ SeenAt w6 sb bb S y false ∧ Blk w6 w5.heap.size #[.int .i64 xp, .int .i64 xf, .int .i64 xl, .int .i64 xr, .int .i64 xc] 135) ⟨HP5.out.plain (Only.alloc _ _ _), HA5.out.plain (Only.alloc _ _ _), HB5.out.plain (Only.alloc _ _ _), Blk.new _ _ _⟩ ?_
  have HIX : Hid (Apt A tb db eb wb xb ob nb v w5.heap.size) := Lib.hid (HP5.out.dcx.fresh (Nat.le_refl _))
  generalize w5.heap.size = ix at HIX ⊢
  clear s3 u1 htx HP5 HA5 HB5
  rintro w6 ⟨hP6, hA6, hB6, hX6⟩
  have HP6 := Lib.hid hP6
  have HA6 := Lib.hid hA6
  have HX6 := Lib.hid hX6
  have HB6 := Lib.hid hB6
  clear hP6 hA6 hB6 hX6
  obtain ⟨blo, bhi, b1, _, _, _, b2⟩ := HB6.out
  rw [HSY.out] at b2
  have s3 := Blk.cell b1 3 rfl
  have u1 := b2.cell 1 rfl
  clear b1 b2
  go_upto_region 17 with fail
  refine wp_name (fun w7 => Pg A n S t fs fa tb db eb wb xb ob nb base v L [sa, sb] w [] v w7 ∧ SeenAt w7 sa ba S x true ∧ SeenAt w7 sb bb S y false ∧ Blk w7 ix #[.int .i64 xp, .int .i64 xf, .int .i64 xl, .int .i64 xr, .int .i64 xc] 135 ∧ Blk w7 w6.heap.size #[.int .i64 yp, .int .i64 yf, .int .i64 yl, .int .i64 yr, .int .i64 yc] 135) ⟨HP6.out.plain (Only.alloc _ _ _), HA6.out.plain (Only.alloc _ _ _), HB6.out.plain (Only.alloc _ _ _), HX6.out.alloc _, Blk.new _ _ _⟩ ?_
  have HIY : Hid (Apt A tb db eb wb xb ob nb v w6.heap.size) := Lib.hid (HP6.out.dcx.fresh (Nat.le_refl _))
  generalize w6.heap.size = iy at HIY ⊢
  clear s3 u1 hty HP6 HA6 HB6 HX6
  rintro w7 ⟨hP7, hA7, hB7, hX7, hY7⟩
  have HP7 := Lib.hid hP7
  have HA7 : Hid (Hb A tb db eb wb xb ob nb S sa ba ix xp xf xl xr xc x true v w7) := Lib.hid ⟨hA7, hX7, HIN.out.2.2.2.2.2.1, HIX.out.g⟩
  have HB7 : Hid (Hb A tb db eb wb xb ob nb S sb bb iy yp yf yl yr yc y false v w7) := Lib.hid ⟨hB7, hY7, HIN.out.2.2.2.2.2.2.1, HIY.out.g⟩
  clear hP7 hA7 hB7 hX7 hY7
  have hq19 : (xlo == ylo) = true := by simp; have := HXB.out; have := HSM.out; omega
  have hq19b : (xhi == yhi) = true := by simp; have := HXB.out; have := HSM.out; omega
  go_upto_region 20 with fail
  have HP8 := Lib.hid (HP7.out.plain (Only.drew [] w7))
  have HA8 := Lib.hid (HA7.out.plain (Only.drew [] w7))
  have HB8 := Lib.hid (HB7.out.plain (Only.drew [] w7))
  have HCC : Hid (∀ v W, Hb A tb db eb wb xb ob nb S sa ba ix xp xf xl xr xc x true v W → Hb A tb db eb wb xb ob nb S sb bb iy yp yf yl yr yc y false v W → (W.cell? ⟨ix, 0, none⟩ = some (.int .i64 xp) ∧ W.cell? ⟨ix, 1, none⟩ = some (.int .i64 xf) ∧ W.cell? ⟨ix, 2, none⟩ = some (.int .i64 xl) ∧ W.cell? ⟨ix, 3, none⟩ = some (.int .i64 xr) ∧ W.cell? ⟨ix, 4, none⟩ = some (.int .i64 xc) ∧ W.cell? ⟨iy, 0, none⟩ = some (.int .i64 yp) ∧ W.cell? ⟨iy, 1, none⟩ = some (.int .i64 yf) ∧ W.cell? ⟨iy, 2, none⟩ = some (.int .i64 yl) ∧ W.cell? ⟨iy, 3, none⟩ = some (.int .i64 yr) ∧ W.cell? ⟨iy, 4, none⟩ = some (.int .i64 yc))) := Lib.hid (fun v W h k => ⟨h.blk.cell 0 rfl, h.blk.cell 1 rfl, h.blk.cell 2 rfl, h.blk.cell 3 rfl, h.blk.cell 4 rfl, k.blk.cell 0 rfl, k.blk.cell 1 rfl, k.blk.cell 2 rfl, k.blk.cell 3 rfl, k.blk.cell 4 rfl⟩)
  have hcc := HCC.out _ _ HA8.out HB8.out
  obtain ⟨d0, d1, d2, d3, d4, c0, c1, c2, c3, c4⟩ := hcc
  have HU1 := Lib.hid (HA8.out.left HXE.out.1 HIN.out.2.2.1 HXE.out.2)
  go_region_held3 (fun W => (W.cell? ⟨ix, 0, none⟩ = some (.int .i64 xp) ∧ W.cell? ⟨ix, 1, none⟩ = some (.int .i64 xf) ∧ W.cell? ⟨ix, 2, none⟩ = some (.int .i64 xl) ∧ W.cell? ⟨ix, 3, none⟩ = some (.int .i64 xr) ∧ W.cell? ⟨ix, 4, none⟩ = some (.int .i64 xc) ∧ W.cell? ⟨iy, 0, none⟩ = some (.int .i64 yp) ∧ W.cell? ⟨iy, 1, none⟩ = some (.int .i64 yf) ∧ W.cell? ⟨iy, 2, none⟩ = some (.int .i64 yl) ∧ W.cell? ⟨iy, 3, none⟩ = some (.int .i64 yr) ∧ W.cell? ⟨iy, 4, none⟩ = some (.int .i64 yc)))
    (first | exact ⟨d0, d1, d2, d3, d4, c0, c1, c2, c3, c4⟩ | exact HCC.out _ _ HA14.out HB14.out | exact HCC.out _ _ HA13.out HB13.out | exact HCC.out _ _ HA12.out HB12.out | exact HCC.out _ _ HA11.out HB11.out | exact HCC.out _ _ HA10.out HB10.out | exact HCC.out _ _ HA9.out HB9.out)
    (first
      | (go_at_call 33; refine HIH2.out.mono ?_; rintro e w14 hm14;
         obtain ⟨rfl, v14, hP14, hX14, hn14⟩ := HP13.out.more hm14 (by intro k hk; simp at hk; rcases hk with rfl | rfl; exact ⟨Or.inr (Nat.le_trans HP11.out.only.size HQ3.out.1), HQ3.out.2.2⟩; exact ⟨Or.inr (Nat.le_trans HP12.out.only.size HQ4.out.1), HQ4.out.2.2⟩);
         have HA14 := Lib.hid (HA13.out.keep HP13.out.dcx.got (Y := [q3, q4]) (by intro k hk; simp at hk; rcases hk with rfl | rfl; exact HS13a.out.sides; exact HS13.out.sides) (by simp only [List.mem_cons, List.not_mem_nil, or_false, not_or]; exact ⟨by have := HQ3.out.1; have := side_lt HA11.out.see.side; omega, by have := HQ4.out.1; have := side_lt HA12.out.see.side; omega⟩) hX14 hn14);
         have HB14 := Lib.hid (HB13.out.keep HP13.out.dcx.got (Y := [q3, q4]) (by intro k hk; simp at hk; rcases hk with rfl | rfl; exact HS13a.out.sides; exact HS13.out.sides) (by simp only [List.mem_cons, List.not_mem_nil, or_false, not_or]; exact ⟨by have := HQ3.out.1; have := side_lt HB11.out.see.side; omega, by have := HQ4.out.1; have := side_lt HB12.out.see.side; omega⟩) hX14 hn14);
         have HP14 := Lib.hid hP14)
      | (go_at_call 62; refine HU4.out.mono ?_; rintro e w13 ⟨q4, rfl, hq4, hS13, hX13⟩;
         have HP13 := Lib.hid (HP12.out.plain hX13); have HA13 := Lib.hid (HA12.out.plain hX13); have HB13 := Lib.hid (HB12.out.plain hX13); have HS13 := Lib.hid hS13; have HS13a := Lib.hid (HS12.out.plain hX13);
         have HQ4 : Hid (w12.heap.size ≤ q4 ∧ q4 < w13.heap.size ∧ Apt A tb db eb wb xb ob nb v11 q4) := Lib.hid ⟨hq4, side_lt hS13, HP12.out.dcx.fresh hq4⟩;
         have HIH2 := Lib.hid (IH.out r r2 (by rw [HXE.out.1, HYE.out.1]; simp only [Tr.cnt]; have := Tr.cnt_pos l; have := Tr.cnt_pos l2; omega) q3 q4 _ _ _ HP13.out.dcx (by have := HIN.out.1; rw [HXE.out.1] at this; exact this.2.2.2.2.2.2) (by have := HIN.out.2.1; rw [HYE.out.1] at this; exact this.2.2.2.2.2.2) (by have := HIN.out.2.2.1; rw [HXE.out.1] at this; exact this.2.2.2.2.2.1) (by have := HIN.out.2.2.2.1; rw [HYE.out.1] at this; exact this.2.2.2.2.2.1) HS13a.out hS13 (by have h1 := HIN.out.2.2.2.2.1; rw [HXE.out.1, HYE.out.1] at h1; simp only [Tr.cnt] at h1; have h2 := md_cnt l l2; simp only [List.length_append, List.length_nil]; omega) HQ3.out.2.2 HQ4.out.2.2 (by have := HQ3.out.2.1; omega));
         clear hq4 hS13 hX13)
      | (go_at_call 62; refine HU3.out.mono ?_; rintro e w12 ⟨q3, rfl, hq3, hS12, hX12⟩;
         have HP12 := Lib.hid (HP11.out.plain hX12); have HA12 := Lib.hid (HA11.out.plain hX12); have HB12 := Lib.hid (HB11.out.plain hX12); have HS12 := Lib.hid hS12;
         have HQ3 : Hid (w11.heap.size ≤ q3 ∧ q3 < w12.heap.size ∧ Apt A tb db eb wb xb ob nb v11 q3) := Lib.hid ⟨hq3, side_lt hS12, HP11.out.dcx.fresh hq3⟩;
         have HU4 := Lib.hid (HB12.out.right HYE.out.1 HIN.out.2.2.2.1 HYE.out.2);
         clear hq3 hS12 hX12)
      | (go_at_call 33; refine HIH1.out.mono ?_; rintro e w11 hm11;
         obtain ⟨rfl, v11, hP11, hX11, hn11⟩ := HP10.out.more hm11 (by intro k hk; simp at hk; rcases hk with rfl | rfl; exact ⟨Or.inr (Nat.le_trans HP8.out.only.size HQ1.out.1), HQ1.out.2.2⟩; exact ⟨Or.inr (Nat.le_trans HP9.out.only.size HQ2.out.1), HQ2.out.2.2⟩);
         have HA11 := Lib.hid (HA10.out.keep HP10.out.dcx.got (Y := [q1, q2]) (by intro k hk; simp at hk; rcases hk with rfl | rfl; exact HS10a.out.sides; exact HS10.out.sides) (by simp only [List.mem_cons, List.not_mem_nil, or_false, not_or]; exact ⟨by have := HQ1.out.1; have := side_lt HA8.out.see.side; omega, by have := HQ2.out.1; have := side_lt HA9.out.see.side; omega⟩) hX11 hn11);
         have HB11 := Lib.hid (HB10.out.keep HP10.out.dcx.got (Y := [q1, q2]) (by intro k hk; simp at hk; rcases hk with rfl | rfl; exact HS10a.out.sides; exact HS10.out.sides) (by simp only [List.mem_cons, List.not_mem_nil, or_false, not_or]; exact ⟨by have := HQ1.out.1; have := side_lt HB8.out.see.side; omega, by have := HQ2.out.1; have := side_lt HB9.out.see.side; omega⟩) hX11 hn11);
         have HP11 := Lib.hid hP11;
         have HU3 := Lib.hid (HA11.out.right HXE.out.1 HIN.out.2.2.1 HXE.out.2);
         clear hm11 hP11 hX11 hn11)
      | (go_at_call 62; refine HU2.out.mono ?_; rintro e w10 ⟨q2, rfl, hq2, hS10, hX10⟩;
         have HP10 := Lib.hid (HP9.out.plain hX10); have HA10 := Lib.hid (HA9.out.plain hX10); have HB10 := Lib.hid (HB9.out.plain hX10); have HS10 := Lib.hid hS10; have HS10a := Lib.hid (HS9.out.plain hX10);
         have HQ2 : Hid (w9.heap.size ≤ q2 ∧ q2 < w10.heap.size ∧ Apt A tb db eb wb xb ob nb v q2) := Lib.hid ⟨hq2, side_lt hS10, HP9.out.dcx.fresh hq2⟩;
         have HIH1 := Lib.hid (IH.out l l2 (by rw [HXE.out.1, HYE.out.1]; simp only [Tr.cnt]; have := Tr.cnt_pos r; have := Tr.cnt_pos r2; omega) q1 q2 _ _ _ HP10.out.dcx (by have := HIN.out.1; rw [HXE.out.1] at this; exact this.2.2.2.2.2.1) (by have := HIN.out.2.1; rw [HYE.out.1] at this; exact this.2.2.2.2.2.1) (by have := HIN.out.2.2.1; rw [HXE.out.1] at this; exact this.2.2.2.2.1) (by have := HIN.out.2.2.2.1; rw [HYE.out.1] at this; exact this.2.2.2.2.1) HS10a.out hS10 (by have h1 := HIN.out.2.2.2.2.1; rw [HXE.out.1, HYE.out.1] at h1; simp only [Tr.cnt] at h1; simp only [List.append_nil]; omega) HQ1.out.2.2 HQ2.out.2.2 (by have := HQ1.out.2.1; omega));
         clear hq2 hS10 hX10)
      | (go_at_call 62; refine HU1.out.mono ?_; rintro e w9 ⟨q1, rfl, hq1, hS9, hX9⟩;
         have HP9 := Lib.hid (HP8.out.plain hX9); have HA9 := Lib.hid (HA8.out.plain hX9); have HB9 := Lib.hid (HB8.out.plain hX9); have HS9 := Lib.hid hS9;
         have HQ1 : Hid (w7.drew.heap.size ≤ q1 ∧ q1 < w9.heap.size ∧ Apt A tb db eb wb xb ob nb v q1) := Lib.hid ⟨hq1, side_lt hS9, HP8.out.dcx.fresh hq1⟩;
         have HU2 := Lib.hid (HB9.out.left HYE.out.1 HIN.out.2.2.2.1 HYE.out.2);
         clear hq1 hS9 hX9))
  clear d0 d1 d2 d3 d4 c0 c1 c2 c3 c4
  go_wp2_with fail
  go_ret
  have := HP14.out.done
  rw [List.nil_append] at this
  have hx := HXE.out.1
  have hy := HYE.out.1
  have wx := HIN.out.2.2.1
  have wy := HIN.out.2.2.2.1
  have hs := HSM.out
  rw [hx] at wx hs ⊢
  rw [hy] at wy hs ⊢
  simp only [Tr.lo, Tr.hi] at hs
  obtain ⟨rfl, hs⟩ := hs
  have hpq : pw (p + 1) = pw (q + 1) := by omega
  have := pw_same hpq
  subst this
  rw [md_both wx wy]
  assumption

end Go.Proofs.Ytacegkjobfeiiaa

