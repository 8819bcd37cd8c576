/- Two sides beside one another: one side wider: as a call. Conditions: all stands in memory as Dcx says. -/
import Derived.Test.YtacegkjobfeiiaaCSideY
set_option linter.unusedVariables false
set_option linter.unusedSimpArgs false
set_option linter.unusedSectionVars false
set_option linter.unnecessarySimpa false
namespace Go.Proofs.Ytacegkjobfeiiaa
open Go.RowKit

set_option maxRecDepth 100000 in
set_option maxHeartbeats 4000000 in
theorem beside_xL_leaf {A : PA} {n : Nat} {S : Nat → Sl} {t : Int} {fs : List Nat} {fa : Int} {tb db eb wb xb ob nb base sa sb : Nat} {v : Value} {L : List Ch2} {w : World} {x y : Tr} (h : Dcx A n S t fs fa tb db eb wb xb ob nb base v L w) (Rx : Rep n S x) (Ry : Rep n S y) (wx : x.wf) (wy : y.wf) (hA : SideOf w sa S x true) (hB : SideOf w sb S y false) (hl : L.length + x.cnt + y.cnt ≤ 1000000) (pa : Apt A tb db eb wb xb ob nb v sa) (pb : Apt A tb db eb wb xb ob nb v sb) (hab : sa ≠ sb) (hh : hnd S x ≠ hnd S y) (hn1 : ¬ x.hi < y.lo) (hn2 : ¬ y.hi < x.lo) (IH : ∀ x2 y2 : Tr, x2.cnt + y2.cnt < x.cnt + y.cnt → BesideOk A n S t fs fa tb db eb wb xb ob nb base x2 y2) {i p : Nat} {f mid : Int} {l r : Tr} (hxe : x = .node i p f l r) (hol : y.isLeaf = true) (hsz : y.hi - y.lo < x.hi - x.lo) (hmd : f + pw p = mid ∧ y.lo < mid ∧ y.hi < mid) :
    Calls Try.prog 33 #[.pointer (some ⟨db, 0, none⟩), .pointer (some ⟨sa, 0, none⟩), .pointer (some ⟨sb, 0, none⟩)] w (MorePost eb wb xb ob nb base v L (md x.pairs y.pairs) [sa, sb] w) := by
  have hpx := hnd_pos Rx
  have hpy := hnd_pos Ry
  obtain ⟨tx, vx, fx, hsx, hmx, hex, hspx, xp, xf, xl, xr, xc, htx, hfx, hlx⟩ := shape_facts S wx
  obtain ⟨ty, vy, fy, hsy, hmy, hey, hspy, yp, yf, yl, yr, yc, hty, hfy, hly⟩ := shape_facts S wy
  have HSX := Lib.hid hsx
  have HSY := Lib.hid hsy
  obtain ⟨xlo, hxlo⟩ : ∃ u, x.lo = u := ⟨_, rfl⟩
  obtain ⟨xhi, hxhi⟩ : ∃ u, x.hi = u := ⟨_, rfl⟩
  obtain ⟨ylo, hylo⟩ : ∃ u, y.lo = u := ⟨_, rfl⟩
  obtain ⟨yhi, hyhi⟩ : ∃ u, y.hi = u := ⟨_, rfl⟩
  rw [hxlo, hxhi] at hspx
  rw [hylo, hyhi] at hspy
  have HPX := Lib.hid hspx
  have HPY := Lib.hid hspy
  have HFX := Lib.hid hfx
  have HFY := Lib.hid hfy
  have HLX := Lib.hid hlx
  have HLY := Lib.hid hly
  have HXB := Lib.hid (show x.lo = xlo ∧ x.hi = xhi ∧ y.lo = ylo ∧ y.hi = yhi from ⟨hxlo, hxhi, hylo, hyhi⟩)
  have HIN := Lib.hid (show Rep n S x ∧ Rep n S y ∧ x.wf ∧ y.wf ∧ L.length + x.cnt + y.cnt ≤ 1000000 ∧ Apt A tb db eb wb xb ob nb v sa ∧ Apt A tb db eb wb xb ob nb v sb ∧ sa ≠ sb from ⟨Rx, Ry, wx, wy, hl, pa, pb, hab⟩)
  have HP0 := Lib.hid (Pg.start (X := [sa, sb]) h)
  have HA0 := Lib.hid hA
  have HB0 := Lib.hid hB
  have HNA := Lib.hid (show ¬ x.hi < y.lo ∧ ¬ y.hi < x.lo from ⟨hn1, hn2⟩)
  have hc1 : decide (xhi < ylo) = false := by simp; omega
  have hc2 : decide (yhi < xlo) = false := by simp; omega
  clear hn1 hn2
  have IH := Lib.hid IH
  have HSZ := Lib.hid hsz
  have HMD := Lib.hid hmd
  clear hsz hmd
  have HXE := Lib.hid (show x = .node i p f l r ∧ (xp = (p : Nat) ∧ xf = f ∧ xl = hnd S l ∧ xr = hnd S r ∧ xc = (x.cnt : Nat)) from ⟨hxe, hfx _ _ _ _ _ hxe⟩)
  have hbx : x.isLeaf = false := by rw [hxe]; rfl
  rw [hbx] at htx
  simp only [Bool.not_false] at htx
  clear hbx hxe
  rw [hol] at hty
  simp only [Bool.not_true, Bool.not_false] at hty
  clear hol
  obtain ⟨_, _, _, a1, _⟩ := hA
  obtain ⟨_, _, _, b1, _⟩ := hB
  have s0 := Blk.cell a1 0 rfl
  have t0 := Blk.cell b1 0 rfl
  obtain ⟨hx, hhx⟩ : ∃ u, hnd S x = u := ⟨_, rfl⟩
  obtain ⟨hy, hhy⟩ : ∃ u, hnd S y = u := ⟨_, rfl⟩
  rw [hhx] at hh hpx s0
  rw [hhy] at hh hpy t0
  have e1 : (hx == hy) = false := by simpa using hh
  have e2 : (hx == 0) = false := by simp; omega
  have e3 : (hy == 0) = false := by simp; omega
  have HHX := Lib.hid hhx
  have HHY := Lib.hid hhy
  clear h Rx Ry wx wy hl pa pb hab hh hpx hpy hsx hsy hspx hspy hxlo hxhi hylo hyhi a1 b1 hhx hhy hfx hfy hlx hly
  go_enter Try.func33, Try.ntmps33
  go_upto_region 1 with fail
  go_quiet (fail)
  go_upto_if 15 with fail
  refine wp_name (fun w1 => Only [] w w1 ∧ w1.cell? ⟨sa, 0, none⟩ = some (.int .i64 hx) ∧ w1.cell? ⟨sb, 0, none⟩ = some (.int .i64 hy)) ⟨Only.drewN _ _ _, s0, t0⟩ ?_
  clear s0 t0
  rintro w1 ⟨hO1, s0, t0⟩
  have HP1 := Lib.hid (HP0.out.plain hO1)
  have HB1 := Lib.hid (HB0.out.plain hO1)
  have HSEA := Lib.hid (diff_see HP1.out.dcx.tr HIN.out.1 HIN.out.2.2.1 HP1.out.dcx.df (HA0.out.plain hO1))
  have HG1 : Hid (Sides w1 [sa]) := Lib.hid (fun k hk => by simp at hk; subst hk; exact (HA0.out.plain hO1).sides)
  clear hO1 HP0 HA0 HB0
  go_wp2_with fail
  refine HSEA.out.mono ?_
  rintro e w2 ⟨rfl, ba, hA2, hX2⟩
  have HP2 := Lib.hid (HP1.out.write hX2 (by intro k hk; simp at hk; subst hk; exact ⟨Or.inl (by simp), HIN.out.2.2.2.2.2.1⟩))
  have hB2 := HB1.out.keep HP1.out.dcx.got HG1.out (by simp only [List.mem_append, List.mem_singleton]; rintro (hm | hm); exact HIN.out.2.2.2.2.2.2.2 hm.symm; exact HIN.out.2.2.2.2.2.2.1.g hm) (hX2.mono (by intro k hk; exact List.mem_append_left _ hk))
  have HA2 := Lib.hid hA2
  have HG2 : Hid (Sides w2 [sb]) := Lib.hid (fun k hk => by simp at hk; subst hk; exact hB2.sides)
  have HSEB := Lib.hid (diff_see HP2.out.dcx.tr HIN.out.2.1 HIN.out.2.2.2.1 HP2.out.dcx.df hB2)
  clear hA2 hX2 hB2 HSEA HG1 HP1 HB1
  go_wp2_with fail
  refine HSEB.out.mono ?_
  rintro e w3 ⟨rfl, bb, hB3, hX3⟩
  have HP3 := Lib.hid (HP2.out.write hX3 (by intro k hk; simp at hk; subst hk; exact ⟨Or.inl (by simp), HIN.out.2.2.2.2.2.2.1⟩))
  have hA3 := HA2.out.keep HP2.out.dcx.got HG2.out (by simp only [List.mem_append, List.mem_singleton]; rintro (hm | hm); exact HIN.out.2.2.2.2.2.2.2 hm; exact HIN.out.2.2.2.2.2.1.g hm) (hX3.mono (by intro k hk; exact List.mem_append_left _ hk))
  have HA3 := Lib.hid hA3
  have HB3 := Lib.hid hB3
  obtain ⟨alo, ahi, a1, _, _, _, a2⟩ := hA3
  rw [HSX.out] at a2
  have s3 := Blk.cell a1 3 rfl
  have u1 := a2.cell 1 rfl
  clear s0 t0 hX3 HSEB HG2 HP2 HA2 a1 a2 hB3
  go_wp2_with fail
  refine (HPX.out _).mono ?_
  rintro e w4 ⟨rfl, hX4⟩
  have HP4 := Lib.hid (HP3.out.plain hX4)
  have HA4 := Lib.hid (HA3.out.plain hX4)
  have hB4 := HB3.out.plain hX4
  have HB4 := Lib.hid hB4
  obtain ⟨blo, bhi, b1, _, _, _, b2⟩ := hB4
  rw [HSY.out] at b2
  have s3 := Blk.cell b1 3 rfl
  have u1 := b2.cell 1 rfl
  clear hX4 HP3 HA3 HB3 b1 b2
  go_wp2_with fail
  refine (HPY.out _).mono ?_
  rintro e w5 ⟨rfl, hX5⟩
  have HP5 := Lib.hid (HP4.out.plain hX5)
  have HA5 := Lib.hid (HA4.out.plain hX5)
  have HB5 := Lib.hid (HB4.out.plain hX5)
  clear hX5 HP4 HA4 HB4 s3 u1 hmx hex hmy hey
  obtain ⟨alo, ahi, a1, _, _, _, a2⟩ := HA5.out
  rw [HSX.out] at a2
  have s3 := Blk.cell a1 3 rfl
  have u1 := a2.cell 1 rfl
  clear a1 a2
  go_upto_region 16 with fail
  refine wp_name (fun w6 => Pg A n S t fs fa tb db eb wb xb ob nb base v L [sa, sb] w [] v w6 ∧ SeenAt w6 sa ba S x true ∧ SeenAt w6 sb bb S y false ∧ Blk w6 w5.heap.size #[.int .i64 xp, .int .i64 xf, .int .i64 xl, .int .i64 xr, .int .i64 xc] 135) ⟨HP5.out.plain (Only.alloc _ _ _), HA5.out.plain (Only.alloc _ _ _), HB5.out.plain (Only.alloc _ _ _), Blk.new _ _ _⟩ ?_
  have HIX : Hid (Apt A tb db eb wb xb ob nb v w5.heap.size) := Lib.hid (HP5.out.dcx.fresh (Nat.le_refl _))
  generalize w5.heap.size = ix at HIX ⊢
  clear s3 u1 htx HP5 HA5 HB5
  rintro w6 ⟨hP6, hA6, hB6, hX6⟩
  have HP6 := Lib.hid hP6
  have HA6 := Lib.hid hA6
  have HX6 := Lib.hid hX6
  have HB6 := Lib.hid hB6
  clear hP6 hA6 hB6 hX6
  obtain ⟨blo, bhi, b1, _, _, _, b2⟩ := HB6.out
  rw [HSY.out] at b2
  have s3 := Blk.cell b1 3 rfl
  have u1 := b2.cell 1 rfl
  clear b1 b2
  go_upto_region 17 with fail
  refine wp_name (fun w7 => Pg A n S t fs fa tb db eb wb xb ob nb base v L [sa, sb] w [] v w7 ∧ SeenAt w7 sa ba S x true ∧ SeenAt w7 sb bb S y false ∧ Blk w7 ix #[.int .i64 xp, .int .i64 xf, .int .i64 xl, .int .i64 xr, .int .i64 xc] 135 ∧ Blk w7 w6.heap.size #[.int .i64 yp, .int .i64 yf, .int .i64 yl, .int .i64 yr, .int .i64 yc] 135) ⟨HP6.out.plain (Only.alloc _ _ _), HA6.out.plain (Only.alloc _ _ _), HB6.out.plain (Only.alloc _ _ _), HX6.out.alloc _, Blk.new _ _ _⟩ ?_
  have HIY : Hid (Apt A tb db eb wb xb ob nb v w6.heap.size) := Lib.hid (HP6.out.dcx.fresh (Nat.le_refl _))
  generalize w6.heap.size = iy at HIY ⊢
  clear s3 u1 hty HP6 HA6 HB6 HX6
  rintro w7 ⟨hP7, hA7, hB7, hX7, hY7⟩
  have HP7 := Lib.hid hP7
  have HA7 : Hid (Hb A tb db eb wb xb ob nb S sa ba ix xp xf xl xr xc x true v w7) := Lib.hid ⟨hA7, hX7, HIN.out.2.2.2.2.2.1, HIX.out.g⟩
  have HB7 : Hid (Hb A tb db eb wb xb ob nb S sb bb iy yp yf yl yr yc y false v w7) := Lib.hid ⟨hB7, hY7, HIN.out.2.2.2.2.2.2.1, HIY.out.g⟩
  clear hP7 hA7 hB7 hX7 hY7
  have q3 : decide (yhi - ylo < xhi - xlo) = true := by simp; have := HSZ.out; have := HXB.out; omega
  have q4 : IntKind.i64.wrap (xhi - xlo) = xhi - xlo := IntWalk.i64_in _ (by have := HXB.out; have := Tr.wf_span HIN.out.2.2.1; constructor <;> omega)
  have q5 : IntKind.i64.wrap (yhi - ylo) = yhi - ylo := IntWalk.i64_in _ (by have := HXB.out; have := Tr.wf_span HIN.out.2.2.2.1; constructor <;> omega)
  have HHF := Lib.hid (fun w => half_call (S := S) HXE.out.1 HIN.out.2.2.1 HXE.out.2 HMD.out.1 w)
  have hge : decide (mid ≤ ylo) = false := by simp; have := HMD.out.2; have := HXB.out; omega
  have d0 := HA7.out.blk.cell 0 rfl
  have d1 := HA7.out.blk.cell 1 rfl
  have d2 := HA7.out.blk.cell 2 rfl
  have d3 := HA7.out.blk.cell 3 rfl
  have d4 := HA7.out.blk.cell 4 rfl
  go_wp2_with fail
  refine (HHF.out _).mono ?_
  rintro e w8 ⟨rfl, hX8⟩
  have HP8 := Lib.hid (HP7.out.plain hX8)
  have HA8 := Lib.hid (HA7.out.plain hX8)
  have HB8 := Lib.hid (HB7.out.plain hX8)
  have HU1 := Lib.hid (HA8.out.left HXE.out.1 HIN.out.2.2.1 HXE.out.2)
  clear hX8 d0 d1 d2 d3 d4 HP7 HA7 HB7 HHF
  have d0 := HA8.out.blk.cell 0 rfl
  have d1 := HA8.out.blk.cell 1 rfl
  have d2 := HA8.out.blk.cell 2 rfl
  have d3 := HA8.out.blk.cell 3 rfl
  have d4 := HA8.out.blk.cell 4 rfl
  go_wp2_with fail
  refine HU1.out.mono ?_
  rintro e w9 ⟨q1, rfl, hq1, hS9, hX9⟩
  have HP9 := Lib.hid (HP8.out.plain hX9)
  have HA9 := Lib.hid (HA8.out.plain hX9)
  have HB9 := Lib.hid (HB8.out.plain hX9)
  have HS9 := Lib.hid hS9
  have HQ1 : Hid (w8.heap.size ≤ q1 ∧ q1 < w9.heap.size ∧ Apt A tb db eb wb xb ob nb v q1) := Lib.hid ⟨hq1, side_lt hS9, HP8.out.dcx.fresh hq1⟩
  have HIH := Lib.hid (IH.out l y (by rw [HXE.out.1]; simp only [Tr.cnt]; have := Tr.cnt_pos r; omega) q1 sb _ _ _ HP9.out.dcx (by have := HIN.out.1; rw [HXE.out.1] at this; exact this.2.2.2.2.2.1) HIN.out.2.1 (by have := HIN.out.2.2.1; rw [HXE.out.1] at this; exact this.2.2.2.2.1) HIN.out.2.2.2.1 hS9 HB9.out.see.side (by have h1 := HIN.out.2.2.2.2.1; rw [HXE.out.1] at h1; simp only [Tr.cnt] at h1; simp only [List.append_nil]; omega) HQ1.out.2.2 HB9.out.apt (by have := HQ1.out.1; have := side_lt HB8.out.see.side; omega))
  clear hq1 hS9 hX9 d0 d1 d2 d3 d4 HU1
  go_wp2_with fail
  refine HIH.out.mono ?_
  rintro e w10 hm10
  obtain ⟨rfl, v10, hP10, hX10, hn10⟩ := HP9.out.more hm10 (by intro k hk; simp at hk; rcases hk with rfl | rfl; exact ⟨Or.inr (Nat.le_trans HP8.out.only.size HQ1.out.1), HQ1.out.2.2⟩; exact ⟨Or.inl (by simp), HB9.out.apt⟩)
  have HA10 := Lib.hid (HA9.out.keep HP9.out.dcx.got (Y := [q1, sb]) (by intro k hk; simp at hk; rcases hk with rfl | rfl; exact HS9.out.sides; exact HB9.out.see.side.sides) (by simp only [List.mem_cons, List.not_mem_nil, or_false, not_or]; exact ⟨by have := HQ1.out.1; have := side_lt HA8.out.see.side; omega, HIN.out.2.2.2.2.2.2.2⟩) hX10 hn10)
  have HP10 := Lib.hid hP10
  have HU2 := Lib.hid (HA10.out.right HXE.out.1 HIN.out.2.2.1 HXE.out.2)
  clear hm10 hP10 hX10 hn10
  have d0 := HA10.out.blk.cell 0 rfl
  have d1 := HA10.out.blk.cell 1 rfl
  have d2 := HA10.out.blk.cell 2 rfl
  have d3 := HA10.out.blk.cell 3 rfl
  have d4 := HA10.out.blk.cell 4 rfl
  go_wp2_with fail
  refine HU2.out.mono ?_
  rintro e w11 ⟨q2, rfl, hq2, hS11, hX11⟩
  have HP11 := Lib.hid (HP10.out.plain hX11)
  have HQ2 : Hid (w10.heap.size ≤ q2 ∧ q2 < w11.heap.size ∧ Apt A tb db eb wb xb ob nb v10 q2) := Lib.hid ⟨hq2, side_lt hS11, HP10.out.dcx.fresh hq2⟩
  have HAL := Lib.hid (diff_all r HP11.out.dcx (by have := HIN.out.1; rw [HXE.out.1] at this; exact this.2.2.2.2.2.2) (by have := HIN.out.2.2.1; rw [HXE.out.1] at this; exact this.2.2.2.2.2.1) hS11 (by have h1 := HIN.out.2.2.2.2.1; rw [HXE.out.1] at h1; simp only [Tr.cnt] at h1; have h2 := md_cnt l y; simp only [List.length_append, List.length_nil]; omega) HQ2.out.2.2.t HQ2.out.2.2.d HQ2.out.2.2.a HQ2.out.2.2.g)
  clear hq2 hS11 hX11 d0 d1 d2 d3 d4 HU2
  go_wp2_with fail
  refine HAL.out.mono ?_
  rintro e w12 hm12
  obtain ⟨rfl, v12, hP12, hX12, hn12⟩ := HP11.out.more hm12 (by intro k hk; simp at hk; subst hk; exact ⟨Or.inr (Nat.le_trans HP10.out.only.size HQ2.out.1), HQ2.out.2.2⟩)
  have HP12 := Lib.hid hP12
  clear hm12 hP12
  go_wp2_with fail
  go_ret
  have := HP12.out.done
  rw [List.nil_append] at this
  have wx := HIN.out.2.2.1
  have wy := HIN.out.2.2.2.1
  have hmm := HMD.out
  rw [HXE.out.1] at wx ⊢
  rw [md_xL wx wy (by omega)]
  exact this

set_option maxRecDepth 100000 in
set_option maxHeartbeats 4000000 in
theorem beside_xL_eq {A : PA} {n : Nat} {S : Nat → Sl} {t : Int} {fs : List Nat} {fa : Int} {tb db eb wb xb ob nb base sa sb : Nat} {v : Value} {L : List Ch2} {w : World} {x y : Tr} (h : Dcx A n S t fs fa tb db eb wb xb ob nb base v L w) (Rx : Rep n S x) (Ry : Rep n S y) (wx : x.wf) (wy : y.wf) (hA : SideOf w sa S x true) (hB : SideOf w sb S y false) (hl : L.length + x.cnt + y.cnt ≤ 1000000) (pa : Apt A tb db eb wb xb ob nb v sa) (pb : Apt A tb db eb wb xb ob nb v sb) (hab : sa ≠ sb) (hh : hnd S x ≠ hnd S y) (hn1 : ¬ x.hi < y.lo) (hn2 : ¬ y.hi < x.lo) (IH : ∀ x2 y2 : Tr, x2.cnt + y2.cnt < x.cnt + y.cnt → BesideOk A n S t fs fa tb db eb wb xb ob nb base x2 y2) {i p : Nat} {f mid : Int} {l r : Tr} (hxe : x = .node i p f l r) (hol : y.isLeaf = false) (heq : x.lo = y.lo) (hsz : y.hi - y.lo < x.hi - x.lo) (hmd : f + pw p = mid ∧ y.lo < mid ∧ y.hi < mid) :
    Calls Try.prog 33 #[.pointer (some ⟨db, 0, none⟩), .pointer (some ⟨sa, 0, none⟩), .pointer (some ⟨sb, 0, none⟩)] w (MorePost eb wb xb ob nb base v L (md x.pairs y.pairs) [sa, sb] w) := by
  have hpx := hnd_pos Rx
  have hpy := hnd_pos Ry
  obtain ⟨tx, vx, fx, hsx, hmx, hex, hspx, xp, xf, xl, xr, xc, htx, hfx, hlx⟩ := shape_facts S wx
  obtain ⟨ty, vy, fy, hsy, hmy, hey, hspy, yp, yf, yl, yr, yc, hty, hfy, hly⟩ := shape_facts S wy
  have HSX := Lib.hid hsx
  have HSY := Lib.hid hsy
  obtain ⟨xlo, hxlo⟩ : ∃ u, x.lo = u := ⟨_, rfl⟩
  obtain ⟨xhi, hxhi⟩ : ∃ u, x.hi = u := ⟨_, rfl⟩
  obtain ⟨ylo, hylo⟩ : ∃ u, y.lo = u := ⟨_, rfl⟩
  obtain ⟨yhi, hyhi⟩ : ∃ u, y.hi = u := ⟨_, rfl⟩
  rw [hxlo, hxhi] at hspx
  rw [hylo, hyhi] at hspy
  have HPX := Lib.hid hspx
  have HPY := Lib.hid hspy
  have HFX := Lib.hid hfx
  have HFY := Lib.hid hfy
  have HLX := Lib.hid hlx
  have HLY := Lib.hid hly
  have HXB := Lib.hid (show x.lo = xlo ∧ x.hi = xhi ∧ y.lo = ylo ∧ y.hi = yhi from ⟨hxlo, hxhi, hylo, hyhi⟩)
  have HIN := Lib.hid (show Rep n S x ∧ Rep n S y ∧ x.wf ∧ y.wf ∧ L.length + x.cnt + y.cnt ≤ 1000000 ∧ Apt A tb db eb wb xb ob nb v sa ∧ Apt A tb db eb wb xb ob nb v sb ∧ sa ≠ sb from ⟨Rx, Ry, wx, wy, hl, pa, pb, hab⟩)
  have HP0 := Lib.hid (Pg.start (X := [sa, sb]) h)
  have HA0 := Lib.hid hA
  have HB0 := Lib.hid hB
  have HNA := Lib.hid (show ¬ x.hi < y.lo ∧ ¬ y.hi < x.lo from ⟨hn1, hn2⟩)
  have hc1 : decide (xhi < ylo) = false := by simp; omega
  have hc2 : decide (yhi < xlo) = false := by simp; omega
  clear hn1 hn2
  have IH := Lib.hid IH
  have HSZ := Lib.hid hsz
  have HMD := Lib.hid hmd
  clear hsz hmd
  have HEQ := Lib.hid heq
  clear heq
  have HXE := Lib.hid (show x = .node i p f l r ∧ (xp = (p : Nat) ∧ xf = f ∧ xl = hnd S l ∧ xr = hnd S r ∧ xc = (x.cnt : Nat)) from ⟨hxe, hfx _ _ _ _ _ hxe⟩)
  have hbx : x.isLeaf = false := by rw [hxe]; rfl
  rw [hbx] at htx
  simp only [Bool.not_false] at htx
  clear hbx hxe
  rw [hol] at hty
  simp only [Bool.not_true, Bool.not_false] at hty
  clear hol
  obtain ⟨_, _, _, a1, _⟩ := hA
  obtain ⟨_, _, _, b1, _⟩ := hB
  have s0 := Blk.cell a1 0 rfl
  have t0 := Blk.cell b1 0 rfl
  obtain ⟨hx, hhx⟩ : ∃ u, hnd S x = u := ⟨_, rfl⟩
  obtain ⟨hy, hhy⟩ : ∃ u, hnd S y = u := ⟨_, rfl⟩
  rw [hhx] at hh hpx s0
  rw [hhy] at hh hpy t0
  have e1 : (hx == hy) = false := by simpa using hh
  have e2 : (hx == 0) = false := by simp; omega
  have e3 : (hy == 0) = false := by simp; omega
  have HHX := Lib.hid hhx
  have HHY := Lib.hid hhy
  clear h Rx Ry wx wy hl pa pb hab hh hpx hpy hsx hsy hspx hspy hxlo hxhi hylo hyhi a1 b1 hhx hhy hfx hfy hlx hly
  go_enter Try.func33, Try.ntmps33
  go_upto_region 1 with fail
  go_quiet (fail)
  go_upto_if 15 with fail
  refine wp_name (fun w1 => Only [] w w1 ∧ w1.cell? ⟨sa, 0, none⟩ = some (.int .i64 hx) ∧ w1.cell? ⟨sb, 0, none⟩ = some (.int .i64 hy)) ⟨Only.drewN _ _ _, s0, t0⟩ ?_
  clear s0 t0
  rintro w1 ⟨hO1, s0, t0⟩
  have HP1 := Lib.hid (HP0.out.plain hO1)
  have HB1 := Lib.hid (HB0.out.plain hO1)
  have HSEA := Lib.hid (diff_see HP1.out.dcx.tr HIN.out.1 HIN.out.2.2.1 HP1.out.dcx.df (HA0.out.plain hO1))
  have HG1 : Hid (Sides w1 [sa]) := Lib.hid (fun k hk => by simp at hk; subst hk; exact (HA0.out.plain hO1).sides)
  clear hO1 HP0 HA0 HB0
  go_wp2_with fail
  refine HSEA.out.mono ?_
  rintro e w2 ⟨rfl, ba, hA2, hX2⟩
  have HP2 := Lib.hid (HP1.out.write hX2 (by intro k hk; simp at hk; subst hk; exact ⟨Or.inl (by simp), HIN.out.2.2.2.2.2.1⟩))
  have hB2 := HB1.out.keep HP1.out.dcx.got HG1.out (by simp only [List.mem_append, List.mem_singleton]; rintro (hm | hm); exact HIN.out.2.2.2.2.2.2.2 hm.symm; exact HIN.out.2.2.2.2.2.2.1.g hm) (hX2.mono (by intro k hk; exact List.mem_append_left _ hk))
  have HA2 := Lib.hid hA2
  have HG2 : Hid (Sides w2 [sb]) := Lib.hid (fun k hk => by simp at hk; subst hk; exact hB2.sides)
  have HSEB := Lib.hid (diff_see HP2.out.dcx.tr HIN.out.2.1 HIN.out.2.2.2.1 HP2.out.dcx.df hB2)
  clear hA2 hX2 hB2 HSEA HG1 HP1 HB1
  go_wp2_with fail
  refine HSEB.out.mono ?_
  rintro e w3 ⟨rfl, bb, hB3, hX3⟩
  have HP3 := Lib.hid (HP2.out.write hX3 (by intro k hk; simp at hk; subst hk; exact ⟨Or.inl (by simp), HIN.out.2.2.2.2.2.2.1⟩))
  have hA3 := HA2.out.keep HP2.out.dcx.got HG2.out (by simp only [List.mem_append, List.mem_singleton]; rintro (hm | hm); exact HIN.out.2.2.2.2.2.2.2 hm; exact HIN.out.2.2.2.2.2.1.g hm) (hX3.mono (by intro k hk; exact List.mem_append_left _ hk))
  have HA3 := Lib.hid hA3
  have HB3 := Lib.hid hB3
  obtain ⟨alo, ahi, a1, _, _, _, a2⟩ := hA3
  rw [HSX.out] at a2
  have s3 := Blk.cell a1 3 rfl
  have u1 := a2.cell 1 rfl
  clear s0 t0 hX3 HSEB HG2 HP2 HA2 a1 a2 hB3
  go_wp2_with fail
  refine (HPX.out _).mono ?_
  rintro e w4 ⟨rfl, hX4⟩
  have HP4 := Lib.hid (HP3.out.plain hX4)
  have HA4 := Lib.hid (HA3.out.plain hX4)
  have hB4 := HB3.out.plain hX4
  have HB4 := Lib.hid hB4
  obtain ⟨blo, bhi, b1, _, _, _, b2⟩ := hB4
  rw [HSY.out] at b2
  have s3 := Blk.cell b1 3 rfl
  have u1 := b2.cell 1 rfl
  clear hX4 HP3 HA3 HB3 b1 b2
  go_wp2_with fail
  refine (HPY.out _).mono ?_
  rintro e w5 ⟨rfl, hX5⟩
  have HP5 := Lib.hid (HP4.out.plain hX5)
  have HA5 := Lib.hid (HA4.out.plain hX5)
  have HB5 := Lib.hid (HB4.out.plain hX5)
  clear hX5 HP4 HA4 HB4 s3 u1 hmx hex hmy hey
  obtain ⟨alo, ahi, a1, _, _, _, a2⟩ := HA5.out
  rw [HSX.out] at a2
  have s3 := Blk.cell a1 3 rfl
  have u1 := a2.cell 1 rfl
  clear a1 a2
  go_upto_region 16 with fail
  refine wp_name (fun w6 => Pg A n S t fs fa tb db eb wb xb ob nb base v L [sa, sb] w [] v w6 ∧ SeenAt w6 sa ba S x true ∧ SeenAt w6 sb bb S y false ∧ Blk w6 w5.heap.size #[.int .i64 xp, .int .i64 xf, .int .i64 xl, .int .i64 xr, .int .i64 xc] 135) ⟨HP5.out.plain (Only.alloc _ _ _), HA5.out.plain (Only.alloc _ _ _), HB5.out.plain (Only.alloc _ _ _), Blk.new _ _ _⟩ ?_
  have HIX : Hid (Apt A tb db eb wb xb ob nb v w5.heap.size) := Lib.hid (HP5.out.dcx.fresh (Nat.le_refl _))
  generalize w5.heap.size = ix at HIX ⊢
  clear s3 u1 htx HP5 HA5 HB5
  rintro w6 ⟨hP6, hA6, hB6, hX6⟩
  have HP6 := Lib.hid hP6
  have HA6 := Lib.hid hA6
  have HX6 := Lib.hid hX6
  have HB6 := Lib.hid hB6
  clear hP6 hA6 hB6 hX6
  obtain ⟨blo, bhi, b1, _, _, _, b2⟩ := HB6.out
  rw [HSY.out] at b2
  have s3 := Blk.cell b1 3 rfl
  have u1 := b2.cell 1 rfl
  clear b1 b2
  go_upto_region 17 with fail
  refine wp_name (fun w7 => Pg A n S t fs fa tb db eb wb xb ob nb base v L [sa, sb] w [] v w7 ∧ SeenAt w7 sa ba S x true ∧ SeenAt w7 sb bb S y false ∧ Blk w7 ix #[.int .i64 xp, .int .i64 xf, .int .i64 xl, .int .i64 xr, .int .i64 xc] 135 ∧ Blk w7 w6.heap.size #[.int .i64 yp, .int .i64 yf, .int .i64 yl, .int .i64 yr, .int .i64 yc] 135) ⟨HP6.out.plain (Only.alloc _ _ _), HA6.out.plain (Only.alloc _ _ _), HB6.out.plain (Only.alloc _ _ _), HX6.out.alloc _, Blk.new _ _ _⟩ ?_
  have HIY : Hid (Apt A tb db eb wb xb ob nb v w6.heap.size) := Lib.hid (HP6.out.dcx.fresh (Nat.le_refl _))
  generalize w6.heap.size = iy at HIY ⊢
  clear s3 u1 hty HP6 HA6 HB6 HX6
  rintro w7 ⟨hP7, hA7, hB7, hX7, hY7⟩
  have HP7 := Lib.hid hP7
  have HA7 : Hid (Hb A tb db eb wb xb ob nb S sa ba ix xp xf xl xr xc x true v w7) := Lib.hid ⟨hA7, hX7, HIN.out.2.2.2.2.2.1, HIX.out.g⟩
  have HB7 : Hid (Hb A tb db eb wb xb ob nb S sb bb iy yp yf yl yr yc y false v w7) := Lib.hid ⟨hB7, hY7, HIN.out.2.2.2.2.2.2.1, HIY.out.g⟩
  clear hP7 hA7 hB7 hX7 hY7
  have q1 : (xlo == ylo) = true := by simp; have := HXB.out; have := HEQ.out; omega
  have q2 : (xhi == yhi) = false := by simp; have := HSZ.out; have := HXB.out; have := HEQ.out; omega
  have q3 : decide (yhi - ylo < xhi - xlo) = true := by simp; have := HSZ.out; have := HXB.out; omega
  have q4 : IntKind.i64.wrap (xhi - xlo) = xhi - xlo := IntWalk.i64_in _ (by have := HXB.out; have := Tr.wf_span HIN.out.2.2.1; constructor <;> omega)
  have q5 : IntKind.i64.wrap (yhi - ylo) = yhi - ylo := IntWalk.i64_in _ (by have := HXB.out; have := Tr.wf_span HIN.out.2.2.2.1; constructor <;> omega)
  have HHF := Lib.hid (fun w => half_call (S := S) HXE.out.1 HIN.out.2.2.1 HXE.out.2 HMD.out.1 w)
  have hge : decide (mid ≤ ylo) = false := by simp; have := HMD.out.2; have := HXB.out; omega
  have d0 := HA7.out.blk.cell 0 rfl
  have d1 := HA7.out.blk.cell 1 rfl
  have d2 := HA7.out.blk.cell 2 rfl
  have d3 := HA7.out.blk.cell 3 rfl
  have d4 := HA7.out.blk.cell 4 rfl
  go_wp2_with fail
  refine (HHF.out _).mono ?_
  rintro e w8 ⟨rfl, hX8⟩
  have HP8 := Lib.hid (HP7.out.plain hX8)
  have HA8 := Lib.hid (HA7.out.plain hX8)
  have HB8 := Lib.hid (HB7.out.plain hX8)
  have HU1 := Lib.hid (HA8.out.left HXE.out.1 HIN.out.2.2.1 HXE.out.2)
  clear hX8 d0 d1 d2 d3 d4 HP7 HA7 HB7 HHF
  have d0 := HA8.out.blk.cell 0 rfl
  have d1 := HA8.out.blk.cell 1 rfl
  have d2 := HA8.out.blk.cell 2 rfl
  have d3 := HA8.out.blk.cell 3 rfl
  have d4 := HA8.out.blk.cell 4 rfl
  go_wp2_with fail
  refine HU1.out.mono ?_
  rintro e w9 ⟨q1, rfl, hq1, hS9, hX9⟩
  have HP9 := Lib.hid (HP8.out.plain hX9)
  have HA9 := Lib.hid (HA8.out.plain hX9)
  have HB9 := Lib.hid (HB8.out.plain hX9)
  have HS9 := Lib.hid hS9
  have HQ1 : Hid (w8.heap.size ≤ q1 ∧ q1 < w9.heap.size ∧ Apt A tb db eb wb xb ob nb v q1) := Lib.hid ⟨hq1, side_lt hS9, HP8.out.dcx.fresh hq1⟩
  have HIH := Lib.hid (IH.out l y (by rw [HXE.out.1]; simp only [Tr.cnt]; have := Tr.cnt_pos r; omega) q1 sb _ _ _ HP9.out.dcx (by have := HIN.out.1; rw [HXE.out.1] at this; exact this.2.2.2.2.2.1) HIN.out.2.1 (by have := HIN.out.2.2.1; rw [HXE.out.1] at this; exact this.2.2.2.2.1) HIN.out.2.2.2.1 hS9 HB9.out.see.side (by have h1 := HIN.out.2.2.2.2.1; rw [HXE.out.1] at h1; simp only [Tr.cnt] at h1; simp only [List.append_nil]; omega) HQ1.out.2.2 HB9.out.apt (by have := HQ1.out.1; have := side_lt HB8.out.see.side; omega))
  clear hq1 hS9 hX9 d0 d1 d2 d3 d4 HU1
  go_wp2_with fail
  refine HIH.out.mono ?_
  rintro e w10 hm10
  obtain ⟨rfl, v10, hP10, hX10, hn10⟩ := HP9.out.more hm10 (by intro k hk; simp at hk; rcases hk with rfl | rfl; exact ⟨Or.inr (Nat.le_trans HP8.out.only.size HQ1.out.1), HQ1.out.2.2⟩; exact ⟨Or.inl (by simp), HB9.out.apt⟩)
  have HA10 := Lib.hid (HA9.out.keep HP9.out.dcx.got (Y := [q1, sb]) (by intro k hk; simp at hk; rcases hk with rfl | rfl; exact HS9.out.sides; exact HB9.out.see.side.sides) (by simp only [List.mem_cons, List.not_mem_nil, or_false, not_or]; exact ⟨by have := HQ1.out.1; have := side_lt HA8.out.see.side; omega, HIN.out.2.2.2.2.2.2.2⟩) hX10 hn10)
  have HP10 := Lib.hid hP10
  have HU2 := Lib.hid (HA10.out.right HXE.out.1 HIN.out.2.2.1 HXE.out.2)
  clear hm10 hP10 hX10 hn10
  have d0 := HA10.out.blk.cell 0 rfl
  have d1 := HA10.out.blk.cell 1 rfl
  have d2 := HA10.out.blk.cell 2 rfl
  have d3 := HA10.out.blk.cell 3 rfl
  have d4 := HA10.out.blk.cell 4 rfl
  go_wp2_with fail
  refine HU2.out.mono ?_
  rintro e w11 ⟨q2, rfl, hq2, hS11, hX11⟩
  have HP11 := Lib.hid (HP10.out.plain hX11)
  have HQ2 : Hid (w10.heap.size ≤ q2 ∧ q2 < w11.heap.size ∧ Apt A tb db eb wb xb ob nb v10 q2) := Lib.hid ⟨hq2, side_lt hS11, HP10.out.dcx.fresh hq2⟩
  have HAL := Lib.hid (diff_all r HP11.out.dcx (by have := HIN.out.1; rw [HXE.out.1] at this; exact this.2.2.2.2.2.2) (by have := HIN.out.2.2.1; rw [HXE.out.1] at this; exact this.2.2.2.2.2.1) hS11 (by have h1 := HIN.out.2.2.2.2.1; rw [HXE.out.1] at h1; simp only [Tr.cnt] at h1; have h2 := md_cnt l y; simp only [List.length_append, List.length_nil]; omega) HQ2.out.2.2.t HQ2.out.2.2.d HQ2.out.2.2.a HQ2.out.2.2.g)
  clear hq2 hS11 hX11 d0 d1 d2 d3 d4 HU2
  go_wp2_with fail
  refine HAL.out.mono ?_
  rintro e w12 hm12
  obtain ⟨rfl, v12, hP12, hX12, hn12⟩ := HP11.out.more hm12 (by intro k hk; simp at hk; subst hk; exact ⟨Or.inr (Nat.le_trans HP10.out.only.size HQ2.out.1), HQ2.out.2.2⟩)
  have HP12 := Lib.hid hP12
  clear hm12 hP12
  go_wp2_with fail
  go_ret
  have := HP12.out.done
  rw [List.nil_append] at this
  have wx := HIN.out.2.2.1
  have wy := HIN.out.2.2.2.1
  have hmm := HMD.out
  rw [HXE.out.1] at wx ⊢
  rw [md_xL wx wy (by omega)]
  exact this

set_option maxRecDepth 100000 in
set_option maxHeartbeats 4000000 in
theorem beside_xL_ne {A : PA} {n : Nat} {S : Nat → Sl} {t : Int} {fs : List Nat} {fa : Int} {tb db eb wb xb ob nb base sa sb : Nat} {v : Value} {L : List Ch2} {w : World} {x y : Tr} (h : Dcx A n S t fs fa tb db eb wb xb ob nb base v L w) (Rx : Rep n S x) (Ry : Rep n S y) (wx : x.wf) (wy : y.wf) (hA : SideOf w sa S x true) (hB : SideOf w sb S y false) (hl : L.length + x.cnt + y.cnt ≤ 1000000) (pa : Apt A tb db eb wb xb ob nb v sa) (pb : Apt A tb db eb wb xb ob nb v sb) (hab : sa ≠ sb) (hh : hnd S x ≠ hnd S y) (hn1 : ¬ x.hi < y.lo) (hn2 : ¬ y.hi < x.lo) (IH : ∀ x2 y2 : Tr, x2.cnt + y2.cnt < x.cnt + y.cnt → BesideOk A n S t fs fa tb db eb wb xb ob nb base x2 y2) {i p : Nat} {f mid : Int} {l r : Tr} (hxe : x = .node i p f l r) (hol : y.isLeaf = false) (heq : x.lo ≠ y.lo) (hsz : y.hi - y.lo < x.hi - x.lo) (hmd : f + pw p = mid ∧ y.lo < mid ∧ y.hi < mid) :
    Calls Try.prog 33 #[.pointer (some ⟨db, 0, none⟩), .pointer (some ⟨sa, 0, none⟩), .pointer (some ⟨sb, 0, none⟩)] w (MorePost eb wb xb ob nb base v L (md x.pairs y.pairs) [sa, sb] w) := by
  have hpx := hnd_pos Rx
  have hpy := hnd_pos Ry
  obtain ⟨tx, vx, fx, hsx, hmx, hex, hspx, xp, xf, xl, xr, xc, htx, hfx, hlx⟩ := shape_facts S wx
  obtain ⟨ty, vy, fy, hsy, hmy, hey, hspy, yp, yf, yl, yr, yc, hty, hfy, hly⟩ := shape_facts S wy
  have HSX := Lib.hid hsx
  have HSY := Lib.hid hsy
  obtain ⟨xlo, hxlo⟩ : ∃ u, x.lo = u := ⟨_, rfl⟩
  obtain ⟨xhi, hxhi⟩ : ∃ u, x.hi = u := ⟨_, rfl⟩
  obtain ⟨ylo, hylo⟩ : ∃ u, y.lo = u := ⟨_, rfl⟩
  obtain ⟨yhi, hyhi⟩ : ∃ u, y.hi = u := ⟨_, rfl⟩
  rw [hxlo, hxhi] at hspx
  rw [hylo, hyhi] at hspy
  have HPX := Lib.hid hspx
  have HPY := Lib.hid hspy
  have HFX := Lib.hid hfx
  have HFY := Lib.hid hfy
  have HLX := Lib.hid hlx
  have HLY := Lib.hid hly
  have HXB := Lib.hid (show x.lo = xlo ∧ x.hi = xhi ∧ y.lo = ylo ∧ y.hi = yhi from ⟨hxlo, hxhi, hylo, hyhi⟩)
  have HIN := Lib.hid (show Rep n S x ∧ Rep n S y ∧ x.wf ∧ y.wf ∧ L.length + x.cnt + y.cnt ≤ 1000000 ∧ Apt A tb db eb wb xb ob nb v sa ∧ Apt A tb db eb wb xb ob nb v sb ∧ sa ≠ sb from ⟨Rx, Ry, wx, wy, hl, pa, pb, hab⟩)
  have HP0 := Lib.hid (Pg.start (X := [sa, sb]) h)
  have HA0 := Lib.hid hA
  have HB0 := Lib.hid hB
  have HNA := Lib.hid (show ¬ x.hi < y.lo ∧ ¬ y.hi < x.lo from ⟨hn1, hn2⟩)
  have hc1 : decide (xhi < ylo) = false := by simp; omega
  have hc2 : decide (yhi < xlo) = false := by simp; omega
  clear hn1 hn2
  have IH := Lib.hid IH
  have HSZ := Lib.hid hsz
  have HMD := Lib.hid hmd
  clear hsz hmd
  have HEQ := Lib.hid heq
  clear heq
  have HXE := Lib.hid (show x = .node i p f l r ∧ (xp = (p : Nat) ∧ xf = f ∧ xl = hnd S l ∧ xr = hnd S r ∧ xc = (x.cnt : Nat)) from ⟨hxe, hfx _ _ _ _ _ hxe⟩)
  have hbx : x.isLeaf = false := by rw [hxe]; rfl
  rw [hbx] at htx
  simp only [Bool.not_false] at htx
  clear hbx hxe
  rw [hol] at hty
  simp only [Bool.not_true, Bool.not_false] at hty
  clear hol
  obtain ⟨_, _, _, a1, _⟩ := hA
  obtain ⟨_, _, _, b1, _⟩ := hB
  have s0 := Blk.cell a1 0 rfl
  have t0 := Blk.cell b1 0 rfl
  obtain ⟨hx, hhx⟩ : ∃ u, hnd S x = u := ⟨_, rfl⟩
  obtain ⟨hy, hhy⟩ : ∃ u, hnd S y = u := ⟨_, rfl⟩
  rw [hhx] at hh hpx s0
  rw [hhy] at hh hpy t0
  have e1 : (hx == hy) = false := by simpa using hh
  have e2 : (hx == 0) = false := by simp; omega
  have e3 : (hy == 0) = false := by simp; omega
  have HHX := Lib.hid hhx
  have HHY := Lib.hid hhy
  clear h Rx Ry wx wy hl pa pb hab hh hpx hpy hsx hsy hspx hspy hxlo hxhi hylo hyhi a1 b1 hhx hhy hfx hfy hlx hly
  go_enter Try.func33, Try.ntmps33
  go_upto_region 1 with fail
  go_quiet (fail)
  go_upto_if 15 with fail
  refine wp_name (fun w1 => Only [] w w1 ∧ w1.cell? ⟨sa, 0, none⟩ = some (.int .i64 hx) ∧ w1.cell? ⟨sb, 0, none⟩ = some (.int .i64 hy)) ⟨Only.drewN _ _ _, s0, t0⟩ ?_
  clear s0 t0
  rintro w1 ⟨hO1, s0, t0⟩
  have HP1 := Lib.hid (HP0.out.plain hO1)
  have HB1 := Lib.hid (HB0.out.plain hO1)
  have HSEA := Lib.hid (diff_see HP1.out.dcx.tr HIN.out.1 HIN.out.2.2.1 HP1.out.dcx.df (HA0.out.plain hO1))
  have HG1 : Hid (Sides w1 [sa]) := Lib.hid (fun k hk => by simp at hk; subst hk; exact (HA0.out.plain hO1).sides)
  clear hO1 HP0 HA0 HB0
  go_wp2_with fail
  refine HSEA.out.mono ?_
  rintro e w2 ⟨rfl, ba, hA2, hX2⟩
  have HP2 := Lib.hid (HP1.out.write hX2 (by intro k hk; simp at hk; subst hk; exact ⟨Or.inl (by simp), HIN.out.2.2.2.2.2.1⟩))
  have hB2 := HB1.out.keep HP1.out.dcx.got HG1.out (by simp only [List.mem_append, List.mem_singleton]; rintro (hm | hm); exact HIN.out.2.2.2.2.2.2.2 hm.symm; exact HIN.out.2.2.2.2.2.2.1.g hm) (hX2.mono (by intro k hk; exact List.mem_append_left _ hk))
  have HA2 := Lib.hid hA2
  have HG2 : Hid (Sides w2 [sb]) := Lib.hid (fun k hk => by simp at hk; subst hk; exact hB2.sides)
  have HSEB := Lib.hid (diff_see HP2.out.dcx.tr HIN.out.2.1 HIN.out.2.2.2.1 HP2.out.dcx.df hB2)
  clear hA2 hX2 hB2 HSEA HG1 HP1 HB1
  go_wp2_with fail
  refine HSEB.out.mono ?_
  rintro e w3 ⟨rfl, bb, hB3, hX3⟩
  have HP3 := Lib.hid (HP2.out.write hX3 (by intro k hk; simp at hk; subst hk; exact ⟨Or.inl (by simp), HIN.out.2.2.2.2.2.2.1⟩))
  have hA3 := HA2.out.keep HP2.out.dcx.got HG2.out (by simp only [List.mem_append, List.mem_singleton]; rintro (hm | hm); exact HIN.out.2.2.2.2.2.2.2 hm; exact HIN.out.2.2.2.2.2.1.g hm) (hX3.mono (by intro k hk; exact List.mem_append_left _ hk))
  have HA3 := Lib.hid hA3
  have HB3 := Lib.hid hB3
  obtain ⟨alo, ahi, a1, _, _, _, a2⟩ := hA3
  rw [HSX.out] at a2
  have s3 := Blk.cell a1 3 rfl
  have u1 := a2.cell 1 rfl
  clear s0 t0 hX3 HSEB HG2 HP2 HA2 a1 a2 hB3
  go_wp2_with fail
  refine (HPX.out _).mono ?_
  rintro e w4 ⟨rfl, hX4⟩
  have HP4 := Lib.hid (HP3.out.plain hX4)
  have HA4 := Lib.hid (HA3.out.plain hX4)
  have hB4 := HB3.out.plain hX4
  have HB4 := Lib.hid hB4
  obtain ⟨blo, bhi, b1, _, _, _, b2⟩ := hB4
  rw [HSY.out] at b2
  have s3 := Blk.cell b1 3 rfl
  have u1 := b2.cell 1 rfl
  clear hX4 HP3 HA3 HB3 b1 b2
  go_wp2_with fail
  refine (HPY.out _).mono ?_
  rintro e w5 ⟨rfl, hX5⟩
  have HP5 := Lib.hid (HP4.out.plain hX5)
  have HA5 := Lib.hid (HA4.out.plain hX5)
  have HB5 := Lib.hid (HB4.out.plain hX5)
  clear hX5 HP4 HA4 HB4 s3 u1 hmx hex hmy hey
  obtain ⟨alo, ahi, a1, _, _, _, a2⟩ := HA5.out
  rw [HSX.out] at a2
  have s3 := Blk.cell a1 3 rfl
  have u1 := a2.cell 1 rfl
  clear a1 a2
  go_upto_region 16 with fail
  refine wp_name (fun w6 => Pg A n S t fs fa tb db eb wb xb ob nb base v L [sa, sb] w [] v w6 ∧ SeenAt w6 sa ba S x true ∧ SeenAt w6 sb bb S y false ∧ Blk w6 w5.heap.size #[.int .i64 xp, .int .i64 xf, .int .i64 xl, .int .i64 xr, .int .i64 xc] 135) ⟨HP5.out.plain (Only.alloc _ _ _), HA5.out.plain (Only.alloc _ _ _), HB5.out.plain (Only.alloc _ _ _), Blk.new _ _ _⟩ ?_
  have HIX : Hid (Apt A tb db eb wb xb ob nb v w5.heap.size) := Lib.hid (HP5.out.dcx.fresh (Nat.le_refl _))
  generalize w5.heap.size = ix at HIX ⊢
  clear s3 u1 htx HP5 HA5 HB5
  rintro w6 ⟨hP6, hA6, hB6, hX6⟩
  have HP6 := Lib.hid hP6
  have HA6 := Lib.hid hA6
  have HX6 := Lib.hid hX6
  have HB6 := Lib.hid hB6
  clear hP6 hA6 hB6 hX6
  obtain ⟨blo, bhi, b1, _, _, _, b2⟩ := HB6.out
  rw [HSY.out] at b2
  have s3 := Blk.cell b1 3 rfl
  have u1 := b2.cell 1 rfl
  clear b1 b2
  go_upto_region 17 with fail
  refine wp_name (fun w7 => Pg A n S t fs fa tb db eb wb xb ob nb base v L [sa, sb] w [] v w7 ∧ SeenAt w7 sa ba S x true ∧ SeenAt w7 sb bb S y false ∧ Blk w7 ix #[.int .i64 xp, .int .i64 xf, .int .i64 xl, .int .i64 xr, .int .i64 xc] 135 ∧ Blk w7 w6.heap.size #[.int .i64 yp, .int .i64 yf, .int .i64 yl, .int .i64 yr, .int .i64 yc] 135) ⟨HP6.out.plain (Only.alloc _ _ _), HA6.out.plain (Only.alloc _ _ _), HB6.out.plain (Only.alloc _ _ _), HX6.out.alloc _, Blk.new _ _ _⟩ ?_
  have HIY : Hid (Apt A tb db eb wb xb ob nb v w6.heap.size) := Lib.hid (HP6.out.dcx.fresh (Nat.le_refl _))
  generalize w6.heap.size = iy at HIY ⊢
  clear s3 u1 hty HP6 HA6 HB6 HX6
  rintro w7 ⟨hP7, hA7, hB7, hX7, hY7⟩
  have HP7 := Lib.hid hP7
  have HA7 : Hid (Hb A tb db eb wb xb ob nb S sa ba ix xp xf xl xr xc x true v w7) := Lib.hid ⟨hA7, hX7, HIN.out.2.2.2.2.2.1, HIX.out.g⟩
  have HB7 : Hid (Hb A tb db eb wb xb ob nb S sb bb iy yp yf yl yr yc y false v w7) := Lib.hid ⟨hB7, hY7, HIN.out.2.2.2.2.2.2.1, HIY.out.g⟩
  clear hP7 hA7 hB7 hX7 hY7
  have q1 : (xlo == ylo) = false := by simp; have := HXB.out; have := HEQ.out; omega
  have q3 : decide (yhi - ylo < xhi - xlo) = true := by simp; have := HSZ.out; have := HXB.out; omega
  have q4 : IntKind.i64.wrap (xhi - xlo) = xhi - xlo := IntWalk.i64_in _ (by have := HXB.out; have := Tr.wf_span HIN.out.2.2.1; constructor <;> omega)
  have q5 : IntKind.i64.wrap (yhi - ylo) = yhi - ylo := IntWalk.i64_in _ (by have := HXB.out; have := Tr.wf_span HIN.out.2.2.2.1; constructor <;> omega)
  have HHF := Lib.hid (fun w => half_call (S := S) HXE.out.1 HIN.out.2.2.1 HXE.out.2 HMD.out.1 w)
  have hge : decide (mid ≤ ylo) = false := by simp; have := HMD.out.2; have := HXB.out; omega
  have d0 := HA7.out.blk.cell 0 rfl
  have d1 := HA7.out.blk.cell 1 rfl
  have d2 := HA7.out.blk.cell 2 rfl
  have d3 := HA7.out.blk.cell 3 rfl
  have d4 := HA7.out.blk.cell 4 rfl
  go_wp2_with fail
  refine (HHF.out _).mono ?_
  rintro e w8 ⟨rfl, hX8⟩
  have HP8 := Lib.hid (HP7.out.plain hX8)
  have HA8 := Lib.hid (HA7.out.plain hX8)
  have HB8 := Lib.hid (HB7.out.plain hX8)
  have HU1 := Lib.hid (HA8.out.left HXE.out.1 HIN.out.2.2.1 HXE.out.2)
  clear hX8 d0 d1 d2 d3 d4 HP7 HA7 HB7 HHF
  have d0 := HA8.out.blk.cell 0 rfl
  have d1 := HA8.out.blk.cell 1 rfl
  have d2 := HA8.out.blk.cell 2 rfl
  have d3 := HA8.out.blk.cell 3 rfl
  have d4 := HA8.out.blk.cell 4 rfl
  go_wp2_with fail
  refine HU1.out.mono ?_
  rintro e w9 ⟨q1, rfl, hq1, hS9, hX9⟩
  have HP9 := Lib.hid (HP8.out.plain hX9)
  have HA9 := Lib.hid (HA8.out.plain hX9)
  have HB9 := Lib.hid (HB8.out.plain hX9)
  have HS9 := Lib.hid hS9
  have HQ1 : Hid (w8.heap.size ≤ q1 ∧ q1 < w9.heap.size ∧ Apt A tb db eb wb xb ob nb v q1) := Lib.hid ⟨hq1, side_lt hS9, HP8.out.dcx.fresh hq1⟩
  have HIH := Lib.hid (IH.out l y (by rw [HXE.out.1]; simp only [Tr.cnt]; have := Tr.cnt_pos r; omega) q1 sb _ _ _ HP9.out.dcx (by have := HIN.out.1; rw [HXE.out.1] at this; exact this.2.2.2.2.2.1) HIN.out.2.1 (by have := HIN.out.2.2.1; rw [HXE.out.1] at this; exact this.2.2.2.2.1) HIN.out.2.2.2.1 hS9 HB9.out.see.side (by have h1 := HIN.out.2.2.2.2.1; rw [HXE.out.1] at h1; simp only [Tr.cnt] at h1; simp only [List.append_nil]; omega) HQ1.out.2.2 HB9.out.apt (by have := HQ1.out.1; have := side_lt HB8.out.see.side; omega))
  clear hq1 hS9 hX9 d0 d1 d2 d3 d4 HU1
  go_wp2_with fail
  refine HIH.out.mono ?_
  rintro e w10 hm10
  obtain ⟨rfl, v10, hP10, hX10, hn10⟩ := HP9.out.more hm10 (by intro k hk; simp at hk; rcases hk with rfl | rfl; exact ⟨Or.inr (Nat.le_trans HP8.out.only.size HQ1.out.1), HQ1.out.2.2⟩; exact ⟨Or.inl (by simp), HB9.out.apt⟩)
  have HA10 := Lib.hid (HA9.out.keep HP9.out.dcx.got (Y := [q1, sb]) (by intro k hk; simp at hk; rcases hk with rfl | rfl; exact HS9.out.sides; exact HB9.out.see.side.sides) (by simp only [List.mem_cons, List.not_mem_nil, or_false, not_or]; exact ⟨by have := HQ1.out.1; have := side_lt HA8.out.see.side; omega, HIN.out.2.2.2.2.2.2.2⟩) hX10 hn10)
  have HP10 := Lib.hid hP10
  have HU2 := Lib.hid (HA10.out.right HXE.out.1 HIN.out.2.2.1 HXE.out.2)
  clear hm10 hP10 hX10 hn10
  have d0 := HA10.out.blk.cell 0 rfl
  have d1 := HA10.out.blk.cell 1 rfl
  have d2 := HA10.out.blk.cell 2 rfl
  have d3 := HA10.out.blk.cell 3 rfl
  have d4 := HA10.out.blk.cell 4 rfl
  go_wp2_with fail
  refine HU2.out.mono ?_
  rintro e w11 ⟨q2, rfl, hq2, hS11, hX11⟩
  have HP11 := Lib.hid (HP10.out.plain hX11)
  have HQ2 : Hid (w10.heap.size ≤ q2 ∧ q2 < w11.heap.size ∧ Apt A tb db eb wb xb ob nb v10 q2) := Lib.hid ⟨hq2, side_lt hS11, HP10.out.dcx.fresh hq2⟩
  have HAL := Lib.hid (diff_all r HP11.out.dcx (by have := HIN.out.1; rw [HXE.out.1] at this; exact this.2.2.2.2.2.2) (by have := HIN.out.2.2.1; rw [HXE.out.1] at this; exact this.2.2.2.2.2.1) hS11 (by have h1 := HIN.out.2.2.2.2.1; rw [HXE.out.1] at h1; simp only [Tr.cnt] at h1; have h2 := md_cnt l y; simp only [List.length_append, List.length_nil]; omega) HQ2.out.2.2.t HQ2.out.2.2.d HQ2.out.2.2.a HQ2.out.2.2.g)
  clear hq2 hS11 hX11 d0 d1 d2 d3 d4 HU2
  go_wp2_with fail
  refine HAL.out.mono ?_
  rintro e w12 hm12
  obtain ⟨rfl, v12, hP12, hX12, hn12⟩ := HP11.out.more hm12 (by intro k hk; simp at hk; subst hk; exact ⟨Or.inr (Nat.le_trans HP10.out.only.size HQ2.out.1), HQ2.out.2.2⟩)
  have HP12 := Lib.hid hP12
  clear hm12 hP12
  go_wp2_with fail
  go_ret
  have := HP12.out.done
  rw [List.nil_append] at this
  have wx := HIN.out.2.2.1
  have wy := HIN.out.2.2.2.1
  have hmm := HMD.out
  rw [HXE.out.1] at wx ⊢
  rw [md_xL wx wy (by omega)]
  exact this

end Go.Proofs.Ytacegkjobfeiiaa

