/- A node made: makes, leaf, fork as calls. Conditions: the pool stands in memory as PoolAt says, the edit on its way as MkAt says. -/
import Derived.Maps.AppendAt
import Derived.Outline
import Derived.Deep.RegionHeld3
import Derived.Test.YtacegkjobfeiiaaCNodeX
import Derived.Test.YtacegkjobfeiiaaCTrieJ
set_option linter.unusedVariables false
set_option linter.unusedSimpArgs false
set_option linter.unusedSectionVars false
set_option linter.unnecessarySimpa false
namespace Go.Proofs.Ytacegkjobfeiiaa
open Go.RowKit

/-- What stands where: the edit's own block, the map's, the pool's. -/
structure Sit (mb tb base : Nat) (A : PA) : Prop where
  m1 : mb ∉ A.all
  m2 : mb ≠ tb
  a : ∀ k, k ∈ A.all → k < base
  t : tb < base
  ta : tb ∉ A.all

/-- An edit on its way: its cells, its two rows of handles. -/
structure MkAt (w : World) (mb tb base : Nat) (root old : Int) (had : Bool) (gv mv : Value) (gone made : List Int) : Prop where
  blk : Blk w mb #[.pointer (some ⟨tb, 0, none⟩), .pointer none, .int .i64 root, .int .i64 old, .bool had, gv, mv] 119
  gown : w.ownsRow base 3 1 gv gone.length (gone.map (Value.int .i64))
  mown : w.ownsRow base 3 1 mv made.length (made.map (Value.int .i64))
  apart : ∀ b, gv.ownBlock = some b → mv.ownBlock ≠ some b
  out : ∀ b, (gv.ownBlock = some b ∨ mv.ownBlock = some b) → b ≠ mb

theorem MkAt.only {w w' : World} {mb tb base : Nat} {root old : Int} {had : Bool} {gv mv : Value} {gone made : List Int} {L : List Nat} (h : MkAt w mb tb base root old had gv mv gone made) (o : Only L w w') (h1 : mb ∉ L) (h2 : ∀ b, (gv.ownBlock = some b ∨ mv.ownBlock = some b) → b ∉ L) : MkAt w' mb tb base root old had gv mv gone made :=
  ⟨h.blk.only o h1, ownsRow_only h.gown o (fun b hb => h2 b (Or.inl hb)), ownsRow_only h.mown o (fun b hb => h2 b (Or.inr hb)), h.apart, h.out⟩

theorem MkAt.plain {w w' : World} {mb tb base : Nat} {root old : Int} {had : Bool} {gv mv : Value} {gone made : List Int} (h : MkAt w mb tb base root old had gv mv gone made) (o : Only [] w w') : MkAt w' mb tb base root old had gv mv gone made := h.only o (by simp) (by simp)

theorem MkAt.pool {w w' : World} {mb tb base : Nat} {root old : Int} {had : Bool} {gv mv : Value} {gone made : List Int} {A : PA} (h : MkAt w mb tb base root old had gv mv gone made) (s : Sit mb tb base A) (o : Only A.all w w') : MkAt w' mb tb base root old had gv mv gone made :=
  h.only o s.m1 (fun b hb hm => by
    have h1 := s.a b hm
    rcases hb with hb | hb
    · have := (h.gown.lt b hb).1; omega
    · have := (h.mown.lt b hb).1; omega)

theorem MkAt.lt {w : World} {mb tb base : Nat} {root old : Int} {had : Bool} {gv mv : Value} {gone made : List Int} (h : MkAt w mb tb base root old had gv mv gone made) : mb < w.heap.size := h.blk.lt

theorem own_slice {w : World} {base : Nat} {e : TypeId} {v : Value} {n : Nat} {xs : List Value} (h : w.ownsRow base e 1 v n xs) : ∃ ad cap, v = .slice ad n cap := by
  rcases h.2 with ⟨rfl, h1⟩ | ⟨g, cap, _, rfl, _⟩
  · exact ⟨_, _, by rw [h1]⟩
  · exact ⟨_, _, rfl⟩

/-- The node was made. -/
def MakesOk (A : PA) (n : Nat) (S : Nat → Sl) (t : Int) (r : List Nat) (fa : Int) (tb mb base i : Nat) (a b c d old : Int) (had : Bool) (gv mv : Value) (gone made : List Int) (w : World) (e : Ending) (w' : World) : Prop :=
  e = .returned (.int .i64 0) ∧ ∃ mv', MkAt w' mb tb base (wd i ((S i).gen + 1)) old had gv mv' gone (made ++ [wd i ((S i).gen + 1)]) ∧ TrAt w' tb A n (upS S i ⟨(S i).gen + 1, 0, 0, a, b, c, d⟩) (t + 1) r fa ∧ Only (mb :: (mv.ownBlock.toList ++ A.all)) w w' ∧ ∀ b, mv'.ownBlock = some b → mv.ownBlock = some b ∨ w.heap.size ≤ b

set_option maxRecDepth 100000 in
set_option maxHeartbeats 4000000 in
theorem makes_ok {A : PA} {n : Nat} {S : Nat → Sl} {t : Int} {r : List Nat} {fa : Int} {tb mb base i : Nat} {a b c d root old : Int} {had : Bool} {gv mv : Value} {gone made : List Int} {w : World} (T : TrAt w tb A n S t (i :: r) fa) (M : MkAt w mb tb base root old had gv mv gone made) (s : Sit mb tb base A)
    (hg : 0 ≤ (S i).gen ∧ (S i).gen ≤ 1000000000000) (ht : t + 1 ≤ 1000000000000) (hl : made.length ≤ 5000) (hb : base ≤ w.heap.size) :
    Calls Try.prog 70 #[.pointer (some ⟨mb, 0, none⟩), .agg #[.int .i64 a, .int .i64 b, .int .i64 c, .int .i64 d]] w (MakesOk A n S t r fa tb mb base i a b c d old had gv mv gone made w) := by
  obtain ⟨i0, hi0, hz0, hz1, hz2⟩ := info_parts info_int
  have HI0 := Lib.hid hi0
  have HT := Lib.hid T
  have HM := Lib.hid M
  have HS := Lib.hid s
  have HTK := Lib.hid (fun w H => pool_take A n i S t r fa a b c d 0 w H hg ht)
  have HB := Lib.hid hb
  have HL := Lib.hid hl
  clear hi0 T M s hg ht hb hl
  generalize hnw : wd (i : Int) ((S i).gen + 1) = nw at *
  have HNW := Lib.hid hnw
  clear hnw
  go_enter Try.func70, Try.ntmps70
  go_upto_region 1 with fail
  refine wp_name (fun w1 => TrAt w1 tb A n S t (i :: r) fa ∧ MkAt w1 mb tb base root old had gv mv gone made ∧ Blk w1 w.heap.size #[.int .i64 a, .int .i64 b, .int .i64 c, .int .i64 d] 73 ∧ Only [] w w1) ⟨HT.out.plain (Only.alloc _ _ _), HM.out.plain (Only.alloc _ _ _), Blk.new _ _ _, Only.alloc _ _ _⟩ ?_
  rintro w1 ⟨hT, hM, hX, hO⟩
  have hxA : w.heap.size ∉ A.all := fun hm => by have := HS.out.a _ hm; have := HB.out; omega
  generalize w.heap.size = xb at hX hxA ⊢
  have hdr : Only [] w1 w1.drew := Only.drew _ _
  have HT1 := Lib.hid (hT.plain hdr)
  have HM1 := Lib.hid (hM.plain hdr)
  have HO1 := Lib.hid (hO.trans hdr)
  have hbm := (hM.plain hdr).blk
  have hbx := hX.only hdr (by simp)
  have hbt := (hT.plain hdr).blk
  have m0 := hbm.cell 0 rfl
  have m1 := hbm.cell 1 rfl
  have t0 := hbt.cell 0 rfl
  have x0 := hbx.cell 0 rfl
  have x1 := hbx.cell 1 rfl
  have x2 := hbx.cell 2 rfl
  have x3 := hbx.cell 3 rfl
  have HKP : Hid (∀ w', Only A.all w1.drew w' → w'.cell? ⟨mb, 0, none⟩ = some (.pointer (some ⟨tb, 0, none⟩)) ∧ w'.cell? ⟨mb, 1, none⟩ = some (.pointer none) ∧ w'.cell? ⟨tb, 0, none⟩ = some (.pointer (some ⟨A.p, 0, none⟩)) ∧ w'.cell? ⟨xb, 0, none⟩ = some (.int .i64 a) ∧ w'.cell? ⟨xb, 1, none⟩ = some (.int .i64 b) ∧ w'.cell? ⟨xb, 2, none⟩ = some (.int .i64 c) ∧ w'.cell? ⟨xb, 3, none⟩ = some (.int .i64 d)) := by
    intro w' h
    have h1 := hbm.only h HS.out.m1
    have h2 := hbt.only h HS.out.ta
    have h3 := hbx.only h hxA
    exact ⟨h1.cell 0 rfl, h1.cell 1 rfl, h2.cell 0 rfl, h3.cell 0 rfl, h3.cell 1 rfl, h3.cell 2 rfl, h3.cell 3 rfl⟩
  clear hT hM hX hO hdr hbm hbx hbt hxA
  go_region_held3 (fun w' => w'.cell? ⟨mb, 0, none⟩ = some (.pointer (some ⟨tb, 0, none⟩)) ∧ w'.cell? ⟨mb, 1, none⟩ = some (.pointer none) ∧ w'.cell? ⟨tb, 0, none⟩ = some (.pointer (some ⟨A.p, 0, none⟩)) ∧ w'.cell? ⟨xb, 0, none⟩ = some (.int .i64 a) ∧ w'.cell? ⟨xb, 1, none⟩ = some (.int .i64 b) ∧ w'.cell? ⟨xb, 2, none⟩ = some (.int .i64 c) ∧ w'.cell? ⟨xb, 3, none⟩ = some (.int .i64 d))
    (first | exact ⟨m0, m1, t0, x0, x1, x2, x3⟩ | exact HKP.out _ hX3)
    (first | (go_at_call 90; refine (HTK.out w1.drew HT1.out.pool).mono ?_; rintro e w3 ⟨rfl, hP3, hX3⟩))
  have HP3 := Lib.hid hP3
  have hM3 := HM1.out.pool HS.out hX3
  have HM3 := Lib.hid hM3
  have HO3 := Lib.hid ((HO1.out.mono (by simp) : Only A.all w w1.drew).trans hX3)
  have hT3 := HT1.out.blk.only hX3 HS.out.ta
  have HT3 := Lib.hid hT3
  have k2 := hM3.blk.cell 2 rfl
  have f2 := hM3.blk.free 2
  clear hP3 hX3 m0 m1 t0 x0 x1 x2 x3 HM1 HO1 HTK HT1 hM3 hT3 HKP
  go_upto_region 4 with fail
  refine wp_name (fun w4 => PoolAt w4 A n (upS S i ⟨(S i).gen + 1, 0, 0, a, b, c, d⟩) (t + 1) r fa ∧ Blk w4 tb #[.pointer (some ⟨A.p, 0, none⟩)] 92 ∧ MkAt w4 mb tb base nw old had gv mv gone made ∧ Only (mb :: A.all) w w4) ?_ ?_
  · have hX4 : Only [mb] w3 (w3.setCell ⟨mb, 2, none⟩ (.int .i64 nw)) := Only.setCell _ (by simp) _
    refine ⟨HP3.out.only hX4 (fun k hk hm => HS.out.m1 (by simp at hm; exact hm ▸ hk)), HT3.out.only hX4 (by simp; exact fun e => HS.out.m2 e.symm), ⟨?_, ?_, ?_, HM3.out.apart, HM3.out.out⟩, (HO3.out.mono (by intro k hk; simp [hk])).trans (hX4.mono (by simp))⟩
    · have := HM3.out.blk.set_same 2 (.int .i64 nw)
      simpa using this
    · exact ownsRow_only HM3.out.gown hX4 (fun b hb => by simp; exact HM3.out.out b (Or.inl hb))
    · exact ownsRow_only HM3.out.mown hX4 (fun b hb => by simp; exact HM3.out.out b (Or.inr hb))
  clear HP3 HT3 HM3 HO3 k2 f2
  rintro w4 ⟨hP4, hT4, hM4, hO4⟩
  have HP4 := Lib.hid hP4
  have HT4 := Lib.hid hT4
  have HM4 := Lib.hid hM4
  have HO4 := Lib.hid hO4
  have k6 := hM4.blk.cell 6 rfl
  have hbs : base ≤ w4.heap.size := Nat.le_trans HB.out hO4.size
  have hi0 := HI0.out
  have hll := HL.out
  have HWR := Lib.hid (fun b (hb : mv.ownBlock = some b) => HM.out.mown.lt b hb)
  clear hP4 hT4 hM4 hO4
  go_wp2_with (at_builtin; refine wpList_append_own_at _ rfl (.tmp 35) (.tmp 37) 36 rfl base 3 i0 _ 1 8 Try.underlying36 hi0 hz0 hz1 hz2 rfl (by decide) _ _ _ rfl (HM4.out.mown.alloc _) ⟨w4.heap.size, 0, none⟩ 1 1 [.int .i64 nw] rfl rfl (cell_one_new _ _ _) (fun u hu => by simp at hu; subst hu; rfl) (by unfold maxLen; omega) (by omega) (by simp; omega) ?_)
  intro v' w5 hown5 hg5 _ hat5
  obtain ⟨ad5, cap5, rfl⟩ := own_slice hown5
  have hX5 : Only mv.ownBlock.toList w4 w5 := (Only.alloc _ _ _).trans (Only.of_grown hg5 (by intro k hk; simp [hk]))
  have hmA : ∀ b, b ∈ mv.ownBlock.toList → base ≤ b ∧ b ≠ mb := fun b hb => by
    have hb' : mv.ownBlock = some b := by simpa using hb
    exact ⟨(HWR.out b hb').1, HM.out.out b (Or.inr hb')⟩
  have HP5 := Lib.hid (HP4.out.only hX5 (fun k hk hm => by have := HS.out.a k hk; have := (hmA k hm).1; omega))
  have HT5 := Lib.hid (HT4.out.only hX5 (fun hm => by have := HS.out.t; have := (hmA _ hm).1; omega))
  have hB5 := HM4.out.blk.only hX5 (fun hm => (hmA _ hm).2 rfl)
  have HB5 := Lib.hid hB5
  have HG5 := Lib.hid (ownsRow_only HM4.out.gown hX5 (fun b hb hm => HM4.out.apart b hb (by simpa using hm)))
  have HO5 := Lib.hid ((HO4.out.mono (by intro k hk; simp at hk ⊢; rcases hk with h | h <;> simp [h]) : Only (mb :: (mv.ownBlock.toList ++ A.all)) w w4).trans (hX5.mono (by intro k hk; simp at hk ⊢; simp [hk])))
  have HOW := Lib.hid hown5
  have hsz4 : w.heap.size ≤ w4.heap.size := HO4.out.size
  have hnv : ∀ b, (Value.slice ad5 (made.length + 1) cap5).ownBlock = some b → mv.ownBlock = some b ∨ w4.heap.size ≤ b := by
    intro b hb
    rcases hat5 with h | h
    · exact Or.inl (by rw [← h]; exact hb)
    · right
      rw [hb] at h
      simp at h
      omega
  have HNV := Lib.hid hnv
  have HGL := Lib.hid (fun b (hb : gv.ownBlock = some b) => (HM4.out.gown.lt b hb).2)
  have HMB := Lib.hid HM4.out.blk.lt
  have k6 := hB5.cell 6 rfl
  have f6 := hB5.free 6
  clear hown5 hg5 hat5 hX5 hmA hB5 hnv hi0 HP4 HT4 HO4
  go_wp2_with fail
  go_ret
  have hX6 : Only [mb] w5 (w5.setCell ⟨mb, 6, none⟩ (.slice ad5 (made.length + 1) cap5)) := Only.setCell _ (by simp) _
  unfold MakesOk
  rw [HNW.out]
  have hnm : ∀ b, (gv.ownBlock = some b ∨ (Value.slice ad5 (made.length + 1) cap5).ownBlock = some b) → b ≠ mb := by
    rintro b (hb | hb)
    · exact HM.out.out b (Or.inl hb)
    · rcases HNV.out b hb with h | h
      · exact HM.out.out b (Or.inr h)
      · have := HMB.out; omega
  refine ⟨rfl, _, ⟨?_, ?_, ?_, ?_, hnm⟩, ⟨HT5.out.only hX6 (by simp; exact fun e => HS.out.m2 e.symm), HP5.out.only hX6 (fun k hk hm => HS.out.m1 (by simp at hm; exact hm ▸ hk)), HS.out.ta⟩, HO5.out.trans (hX6.mono (by simp)), fun b hb => by
    rcases HNV.out b hb with h | h
    · exact Or.inl h
    · exact Or.inr (by omega)⟩
  · have := HB5.out.set_same 6 (.slice ad5 (made.length + 1) cap5)
    simpa using this
  · exact ownsRow_only HG5.out hX6 (fun b hb => by simp; exact hnm b (Or.inl hb))
  · have := ownsRow_only HOW.out hX6 (fun b hb => by simp; exact hnm b (Or.inr hb))
    simpa using this
  · intro b hb hv
    rcases HNV.out b hv with h | h
    · exact HM.out.apart b hb h
    · have := HGL.out b hb; omega

theorem mk_leaf {mb : Nat} {k v : Int} {w : World} {R : Ending → World → Prop} (h : Calls Try.prog 70 #[.pointer (some ⟨mb, 0, none⟩), .agg #[.int .i64 0, .int .i64 k, .int .i64 v, .int .i64 1]] w fun e w' => ∃ x : Int, e = .returned (.int .i64 x) ∧ R e w') :
    Calls Try.prog 43 #[.pointer (some ⟨mb, 0, none⟩), .int .i64 k, .int .i64 v] w R := by
  have H := Lib.hid h
  clear h
  go_enter Try.func43, Try.ntmps43
  go_wp2_with fail
  refine H.out.mono ?_
  rintro e w1 ⟨x, rfl, hR⟩
  have HR := Lib.hid hR
  clear hR
  go_wp2_with fail
  exact HR.out

theorem mk_fork {mb p : Nat} {f l r c : Int} {w : World} {R : Ending → World → Prop} (hp : p < 32) (hf : 0 ≤ f ∧ f ≤ 4294967295) (h : Calls Try.prog 70 #[.pointer (some ⟨mb, 0, none⟩), .agg #[.int .i64 (f * 64 + p + 1), .int .i64 l, .int .i64 r, .int .i64 c]] w fun e w' => ∃ x : Int, e = .returned (.int .i64 x) ∧ R e w') :
    Calls Try.prog 73 #[.pointer (some ⟨mb, 0, none⟩), .int .i64 p, .int .i64 f, .int .i64 l, .int .i64 r, .int .i64 c] w R := by
  have H := Lib.hid h
  clear h
  obtain ⟨hf0, hf1⟩ := hf
  go_enter Try.func73, Try.ntmps73
  go_wp2_with fail
  refine H.out.mono ?_
  rintro e w1 ⟨x, rfl, hR⟩
  have HR := Lib.hid hR
  clear hR
  go_wp2_with fail
  exact HR.out

end Go.Proofs.Ytacegkjobfeiiaa

