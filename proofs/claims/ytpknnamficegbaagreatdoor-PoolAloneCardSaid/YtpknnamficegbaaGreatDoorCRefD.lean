/- The document's pile of places: Head, Places as calls; Get, Put of words. Conditions: the words stand in memory as MemAt says. -/
import Derived.Test.YtpknnamficegbaaGreatDoorCRawF
import Derived.Test.YtpknnamficegbaaGreatDoorCRefX
import Derived.Test.YtpknnamficegbaaGreatDoorCTrieGa
set_option linter.unusedVariables false
set_option linter.unusedSimpArgs false
set_option linter.unusedSectionVars false
set_option linter.unnecessarySimpa false
namespace Go.Proofs.YtpknnamficegbaaGreatDoor
open Go.RowKit

theorem cast_mem {pre : List Nat} {x : Nat} : ((x : Nat) : Int) ∈ pre.map (fun x => ((x : Nat) : Int)) ↔ x ∈ pre := by
  rw [List.mem_map]
  constructor
  · rintro ⟨y, hy, e⟩
    have : y = x := by omega
    exact this ▸ hy
  · intro h
    exact ⟨x, h, rfl⟩

/-- The pile and the words, nobody at work. -/
structure Rq (w : World) (pl mb wb cap n hd : Nat) (t : Int) (nx : List Int) (S : Nat → Sl) : Prop where
  pile : Blk w pl (PileV n mb) 175
  mem : MemAt w mb wb (2 * n + 3) cap (wordsF n hd t nx S)
  off : pl ≠ mb ∧ pl ≠ wb
  many : 1 ≤ n ∧ n ≤ 4096
  tag : 0 ≤ t ∧ t ≤ 1000000000000
  hdr : hd ≤ n
  len : nx.length = n + 1
  rng : ∀ j, j ≤ n → 0 ≤ nx.getD j 0 ∧ nx.getD j 0 ≤ n

section
variable {w : World} {pl mb wb cap tb k n hd : Nat} {t : Int} {nx : List Int} {S : Nat → Sl}

theorem Rp.q (h : Rp w pl mb wb cap tb k n hd t nx S) : Rq w pl mb wb cap n hd t nx S := ⟨h.pile, h.mem, h.off, h.many, h.tag, h.hdr, h.len, h.rng⟩

theorem Rq.p (h : Rq w pl mb wb cap n hd t nx S) (hT : ThAt w tb mb k) (hl : pl < tb ∧ mb < tb ∧ wb < tb) : Rp w pl mb wb cap tb k n hd t nx S := ⟨h.pile, h.mem, hT, hl, h.off, h.many, h.tag, h.hdr, h.len, h.rng⟩

theorem Rq.only {L : List Nat} {w' : World} (h : Rq w pl mb wb cap n hd t nx S) (o : Only L w w') (h1 : pl ∉ L) (h2 : mb ∉ L) (h3 : wb ∉ L) : Rq w' pl mb wb cap n hd t nx S := ⟨h.pile.only o h1, h.mem.only o h2 h3, h.off, h.many, h.tag, h.hdr, h.len, h.rng⟩

theorem Rq.plain {w' : World} (h : Rq w pl mb wb cap n hd t nx S) (o : Only [] w w') : Rq w' pl mb wb cap n hd t nx S := h.only o (by simp) (by simp) (by simp)

theorem Rq.c (h : Rq w pl mb wb cap n hd t nx S) : w.cell? ⟨pl, 0, none⟩ = some (.pointer (some ⟨mb, 0, none⟩)) ∧ w.cell? ⟨pl, 1, none⟩ = some (.int .i64 0) ∧ w.cell? ⟨pl, 2, none⟩ = some (.int .i64 1) ∧ w.cell? ⟨pl, 3, none⟩ = some (.int .i64 n) :=
  ⟨h.pile.cell 0 rfl, h.pile.cell 1 rfl, h.pile.cell 2 rfl, h.pile.cell 3 rfl⟩

theorem mem_get {N a : Nat} {f : Nat → Int} (M : MemAt w mb wb N cap f) (ha : a < N) (hN : N ≤ 100000) : Calls Tryz.prog 74 #[.pointer (some ⟨mb, 0, none⟩), .int .i64 (a : Nat)] w fun e w' => e = .returned (.int .i64 (f a)) ∧ w = w' := by
  obtain ⟨m0, m1, _⟩ := M.cells ha
  have hfit := M.fits
  have haN : (a : Int) < (N : Int) := by omega
  obtain ⟨x, hx⟩ : ∃ x, f a = x := ⟨_, rfl⟩
  rw [hx] at m1 ⊢
  clear M hx
  go_enter Tryz.func74, Tryz.ntmps74
  go_wp2_with fail
  go_ret
  exact ⟨rfl, rfl⟩

theorem mem_put {N a : Nat} {x : Int} {f : Nat → Int} (M : MemAt w mb wb N cap f) (ha : a < N) (hN : N ≤ 100000) : Calls Tryz.prog 73 #[.pointer (some ⟨mb, 0, none⟩), .int .i64 (a : Nat), .int .i64 x] w fun e w' => e = .returned (.tuple #[]) ∧ MemAt w' mb wb N cap (upd f a x) ∧ Only [wb] w w' := by
  obtain ⟨m0, m1, mf⟩ := M.cells ha
  have hfit := M.fits
  have haN : (a : Int) < (N : Int) := by omega
  have HF : Hid (MemAt (w.setCell ⟨wb, a, none⟩ (.int .i64 x)) mb wb N cap (upd f a x) ∧ Only [wb] w (w.setCell ⟨wb, a, none⟩ (.int .i64 x))) := Lib.hid ⟨M.set a x, Only.setCell _ (by simp) _⟩
  obtain ⟨y, hy⟩ : ∃ y, f a = y := ⟨_, rfl⟩
  rw [hy] at m1
  clear M hy
  go_enter Tryz.func73, Tryz.ntmps73
  go_wp2_with fail
  go_end0
  exact ⟨rfl, HF.out.1, HF.out.2⟩

set_option maxHeartbeats 1000000 in
theorem ref_head (h : Rq w pl mb wb cap n hd t nx S) : Calls Tryz.prog 127 #[.pointer (some ⟨pl, 0, none⟩)] w fun e w' => e = .returned (.int .i64 (wd (hd : Nat) t)) ∧ Only [] w w' := by
  have hm := h.many
  obtain ⟨c0, c1, c2, c3⟩ := h.c
  have HG := Lib.hid (fun W (o : Only [] w W) => mem_get (a := 0) (h.plain o).mem (by omega) (by omega))
  rw [wordsF_head] at HG
  obtain ⟨X, hX⟩ : ∃ X, wd (hd : Int) t = X := ⟨_, rfl⟩
  rw [hX] at HG ⊢
  clear h hX
  go_enter Tryz.func127, Tryz.ntmps127
  go_wp2_with fail
  go_quiet ((go_at_call 74; exact Calls.quiet_of_same ((HG.out _ (Only.drewN [] _ _)).mono fun _ _ h => ⟨h.1, h.2.symm⟩)))
  go_wp2_with fail
  go_ret
  exact ⟨rfl, Only.drewN [] _ _⟩

set_option maxRecDepth 100000 in
set_option maxHeartbeats 4000000 in
theorem ref_places (h : Rq w pl mb wb cap n hd t nx S) : Calls Tryz.prog 90 #[.pointer (some ⟨pl, 0, none⟩)] w fun e w' => ∃ v, e = .returned v ∧ w'.ownsRow w.heap.size 3 1 v (trail n nx hd).length ((trail n nx hd).map fun x => Value.int .i64 (x : Nat)) ∧ Only [] w w' := by
  have hm := h.many
  have ht := h.tag
  have hhd := h.hdr
  have HH := Lib.hid (fun W (o : Only [] w W) => ref_head (h.plain o))
  have hi := idxOf_wd (x := (hd : Int)) (t := t) (by omega) (by omega) ht.1 (by omega)
  have HI := Lib.hid (fun w => ref_idx (wd (hd : Int) t) w)
  rw [hi] at HI
  obtain ⟨X, hX⟩ : ∃ X, wd (hd : Int) t = X := ⟨_, rfl⟩
  rw [hX] at HH HI
  have H := Lib.hid h
  have hmk : ∀ w, (Instr.makeMap 182 none).run Tryz.prog w = .ok (.map (some w.heap.size)) (w.alloc (.map #[] 0)) := fun w => by kernel_rfl
  obtain ⟨i0, hi0, hz0, hz1, hz2⟩ := info_parts info_int
  have HI0 := Lib.hid (And.intro hi0 (And.intro hz0 (And.intro hz1 hz2)))
  clear hi hX h hi0 hz0 hz1 hz2
  go_enter Tryz.func90, Tryz.ntmps90
  go_upto_region 3 with fail
  refine wp_name (fun w1 => MSet w1 w.heap.size 0 [] ∧ Only [] w w1) ⟨MSet.made _, Only.alloc _ _ _⟩ ?_
  obtain ⟨cb, hcb⟩ : ∃ q, w.heap.size = q := ⟨_, rfl⟩
  have HCB := Lib.hid hcb
  rw [hcb]
  clear hcb hmk
  rintro w1 ⟨hS, hX1⟩
  have HS := Lib.hid hS
  have HX1 := Lib.hid hX1
  have HCL := Lib.hid hS.lt
  clear hS hX1
  go_wp2_with fail
  refine (HH.out w1 HX1.out).mono ?_
  rintro e w2 ⟨rfl, hX2⟩
  have HX2 := Lib.hid hX2
  clear hX2
  go_wp2_with fail
  refine (HI.out _).mono ?_
  rintro e w' ⟨rfl, rfl⟩
  go_wp2_with fail
  go_loopg [3, 5] (n + 1) (fun gk s3 s5 wr => ∃ (pre : List Nat) (x : Nat), Tl nx n hd gk pre x ∧ s5 = .int .i64 (x : Nat) ∧ wr.ownsRow w2.heap.size 3 1 s3 pre.length (pre.map fun x => Value.int .i64 (x : Nat)) ∧ MSet wr cb pre.length (pre.map fun x => ((x : Nat) : Int)) ∧ Only [cb] w2 wr)
  case atStart => exact ⟨[], hd, Tl.start hhd, rfl, World.ownsRow_nil _ _ _ _, HS.out.only HX2.out (by simp), Only.refl _ _⟩
  case round =>
    obtain ⟨pre, x, hT, rfl, hown, hS, hXr⟩ := hrel
    obtain ⟨ad, cp, rfl⟩ := own_slice_any hown
    have HT := Lib.hid hT
    have hx2 := hT.le
    have HOWN := Lib.hid hown
    have HSR := Lib.hid hS
    have HXR := Lib.hid hXr
    have hXw : Only [] w wr := (HX1.out.trans HX2.out).past hXr (fun b hb => by simp at hb; subst hb; right; have := HCB.out; omega)
    have HXW := Lib.hid hXw
    obtain ⟨m, hm2⟩ : ∃ q, pre.length = q := ⟨_, rfl⟩
    rw [hm2] at HOWN ⊢
    have HM := Lib.hid hm2
    have hml : m ≤ 4096 := by have := hT.few; omega
    by_cases hx0 : x = 0
    · subst hx0
      have hfe := hT.stop (Or.inl rfl)
      have HFE := Lib.hid hfe
      clear hT hown hS hXr hXw hm2 hfe
      go_wp2_with fail
      go_ret
      refine ⟨_, rfl, ?_, HXW.out⟩
      rw [← HFE.out, HM.out]
      exact ownsRow_base HOWN.out (by have := HX1.out.size; have := HX2.out.size; omega)
    · by_cases hin : x ∈ pre
      · have hlk := hS.look (k := (x : Int)) (x := true) (by omega) (decide_eq_true (cast_mem.2 hin))
        have hfe := hT.stop (Or.inr hin)
        have HFE := Lib.hid hfe
        have hxi : ((x : Int) != 0) = true := by simpa using hx0
        clear hT hown hS hXr hXw hm2 hfe hin
        go_wp2_with fail
        go_ret
        refine ⟨_, rfl, ?_, HXW.out⟩
        rw [← HFE.out, HM.out]
        exact ownsRow_base HOWN.out (by have := HX1.out.size; have := HX2.out.size; omega)
      · have hlk := hS.look (k := (x : Int)) (x := false) (by omega) (decide_eq_false (fun h => hin (cast_mem.1 h)))
        have hxi : ((x : Int) != 0) = true := by simpa using hx0
        obtain ⟨y, hy⟩ : ∃ y : Nat, nx.getD x 0 = (y : Nat) := ⟨(nx.getD x 0).toNat, by have := H.out.rng x hx2; omega⟩
        have hyn : y ≤ n := by have := H.out.rng x hx2; omega
        obtain ⟨q, hq, hTq⟩ := hT.step hx0 hin hy hyn
        have HTQ := Lib.hid (And.intro hq hTq)
        obtain ⟨w5, hrun, hS5, hX5⟩ := hS.put (k := (x : Int)) (by omega) (by omega) (fun h => hin (cast_mem.1 h))
        have hcl : cb ≠ w2.heap.size := by have := HCL.out; have := HX2.out.size; omega
        have hbo : ∀ b, (Value.slice ad m cp).ownBlock = some b → w2.heap.size ≤ b := fun b hb => (HOWN.out.lt b hb).1
        have hcb2 : cb < w2.heap.size := by have := HCL.out; have := HX2.out.size; omega
        have HO5 := Lib.hid (ownsRow_only HOWN.out hX5 (fun b hb => by have := hbo b hb; simp; omega))
        have HS5 := Lib.hid (show MSet w5 cb (m + 1) ((pre ++ [x]).map fun x => ((x : Nat) : Int)) from (hm2 ▸ hS5).congr (fun z => by simp [or_comm]) (by simp))
        have HX5 := Lib.hid (hXr.trans hX5)
        have HXS5 : Hid (Only [cb] wr w5) := Lib.hid hX5
        have HBO := Lib.hid (And.intro hbo hcb2)
        have HNX := Lib.hid (And.intro hy hyn)
        have hbs : w2.heap.size ≤ w5.heap.size := HX5.out.size
        obtain ⟨hi0, hz0, hz1, hz2⟩ := HI0.out
        clear hT hown hS hXr hXw hin hq hTq hS5 hX5 hcl hbo hcb2 hy hyn hm2
        go_upto_region 7 with (at_builtin; refine wpList_append_any (by rfl) (.tmp 20) (.tmp 22) 29 (by rfl) w2.heap.size 3 i0 _ 1 8 Tryz.underlying29 hi0 hz0 hz1 hz2 rfl (by decide) _ m (pre.map fun x => Value.int .i64 (x : Nat)) rfl (HO5.out.alloc _) (some ⟨w5.heap.size, 0, none⟩) 1 1 [.int .i64 (x : Nat)] rfl rfl (fun e => by cases e) (fun ad e => by cases e; exact cell_one_new _ _ _) (fun u hu => by simp at hu; subst hu; rfl) (by unfold maxLen; omega) (by omega) (by simp; omega) ?_)
        intro v6 w6 hown6 hX6 hat6
        obtain ⟨ad6, cp6, rfl⟩ := own_slice_any hown6
        have hX56 : Only (Value.slice ad m cp).ownBlock.toList w5 w6 := (Only.alloc _ w5 _).trans hX6
        have hX26 : Only [cb] w2 w6 := HX5.out.past hX56 (fun b hb => Or.inr (HBO.out.1 b (by simpa using hb)))
        have hXw6 : Only [] w w6 := (HX1.out.trans HX2.out).past hX26 (fun b hb => by simp at hb; subst hb; right; have := HCB.out; omega)
        have HG := Lib.hid (fun W (o : Only [] w6 W) => mem_get (a := 1 + x) (H.out.plain (hXw6.trans o)).mem (by omega) (by omega))
        rw [wordsF_next hd t nx S hx2, HNX.out.1] at HG
        obtain ⟨c0, c1, c2, c3⟩ := (H.out.plain hXw6).c
        have hw1 : IntKind.i64.wrap (1 + (x : Int)) = ((1 + x : Nat) : Int) := by rw [IntWalk.i64_in _ ⟨by omega, by omega⟩]; omega
        have HS6 := Lib.hid (HS5.out.only hX56 (fun hm => by have := HBO.out.1 cb (by simpa using hm); have := HBO.out.2; omega))
        have HO6 := Lib.hid hown6
        have HX26 := Lib.hid hX26
        clear hown6 hX6 hat6 hX56 hX26 hXw6 hi0 hz0 hz1 hz2 hrun hlk
        go_upto_region 7 with fail
        go_quiet ((go_at_call 74; exact Calls.quiet_of_same ((HG.out _ (Only.drewN [] _ _)).mono fun _ _ h => ⟨h.1, h.2.symm⟩)))
        go_wp2_with fail
        go_roundg q
        case measure => have := HTQ.out.1; omega
        case rel => exact ⟨pre ++ [x], y, HTQ.out.2, rfl, by rw [List.length_append, List.map_append, HM.out]; exact ownsRow_only HO6.out (Only.drewN [] _ _) (fun _ _ => by simp), by rw [List.length_append, HM.out]; exact HS6.out.only (Only.drewN [] _ _) (by simp), HX26.out.trans (Only.drewN [cb] _ _)⟩

end

end Go.Proofs.YtpknnamficegbaaGreatDoor

