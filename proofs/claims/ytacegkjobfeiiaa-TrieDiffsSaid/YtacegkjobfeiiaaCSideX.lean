/- A side's half as a call. Conditions: the side's block stands in memory, the node's numbers are keys and a place. · A side's node read as a call. Conditions: the pool stands in memory as PoolAt says, the map in it as Rep says. · What two leaves of one key differ in, as a call. Conditions: given's variables stand in memory as Got says. · All of a side given: what stands while changes come; plain laws. No condition. · All of a leaf's side given, as a call. Conditions: all stands in memory as Dcx says. · All of a side given, as a call. Conditions: all stands in memory as Dcx says. · Diff's iterator made, as a call. No condition. · One handle, one map. A plain law: no program. -/
import Derived.Test.YtacegkjobfeiiaaCAskX
set_option linter.unusedVariables false
set_option linter.unusedSimpArgs false
set_option linter.unusedSectionVars false
set_option linter.unnecessarySimpa false
namespace Go.Proofs.Ytacegkjobfeiiaa
open Go.RowKit

/-- A side's block. -/
def SideAt (w : World) (sb : Nat) (h lo hi : Int) (np : Value) (first : Bool) : Prop := Blk w sb #[.int .i64 h, .int .i64 lo, .int .i64 hi, np, .bool first] 102

def UnderPost (h lo hi : Int) (first : Bool) (w : World) (e : Ending) (w' : World) : Prop := ∃ sb, e = .returned (.pointer (some ⟨sb, 0, none⟩)) ∧ w.heap.size ≤ sb ∧ SideAt w' sb h lo hi (.pointer none) first ∧ Only [] w w'

set_option maxRecDepth 100000 in
set_option maxHeartbeats 4000000 in
theorem side_left {sb p : Nat} {f hl hr c h lo hi : Int} {np : Value} {first : Bool} {w : World} (hS : SideAt w sb h lo hi np first) (hp : p < 32) (hf : 0 ≤ f ∧ f + pw (p + 1) - 1 ≤ 4294967295) :
    Calls Try.prog 62 #[.pointer (some ⟨sb, 0, none⟩), innerV p f hl hr c, .bool false] w (UnderPost hl f (f + pw p - 1) first w) := by
  have hpp := pw_pos (p + 1)
  have hp0 := pw_pos p
  have hps := pw_succ p
  have HH := Lib.hid (fun w => inner_half p f hl hr c hp ⟨hf.1, by omega⟩ w)
  have hsub : IntKind.i64.wrap (f + pw p - 1) = f + pw p - 1 := wraps_i64 _ (by omega) (by omega)
  have HS := Lib.hid hS
  unfold innerV at HH ⊢
  clear hS hp hf hpp hps
  go_enter Try.func62, Try.ntmps62
  go_upto_region 4 with fail
  have hX : ∀ o, Only [] w (w.alloc o) := fun o => Only.alloc _ _ _
  refine wp_name (fun w1 => Blk w1 w.heap.size #[.int .i64 p, .int .i64 f, .int .i64 hl, .int .i64 hr, .int .i64 c] 135 ∧ SideAt w1 sb h lo hi np first ∧ Only [] w w1) ⟨Blk.new _ _ _, HS.out.only (Only.alloc [] _ _) (by simp), Only.alloc _ _ _⟩ ?_
  generalize w.heap.size = ib
  clear hX
  rintro w1 ⟨hI, hS1, hO⟩
  have hd : Only [] w1 w1.drew := Only.drew _ _
  have hI2 := hI.only hd (by simp)
  have hS2 : Blk w1.drew sb #[.int .i64 h, .int .i64 lo, .int .i64 hi, np, .bool first] 102 := Blk.only hS1 hd (by simp)
  have d0 := hI2.cell 0 rfl
  have d1 := hI2.cell 1 rfl
  have d2 := hI2.cell 2 rfl
  have d3 := hI2.cell 3 rfl
  have d4 := hI2.cell 4 rfl
  have s4 := hS2.cell 4 rfl
  have HO := Lib.hid hO
  clear hI hS1 hO hd hI2 hS2
  go_cut [6] (fun s6 wc => ∃ nb, s6 = .pointer (some ⟨nb, 0, none⟩) ∧ w1.heap.size ≤ nb ∧ Blk wc nb #[.int .i64 hl, .int .i64 f, .int .i64 (f + pw p - 1), .pointer none, .bool first] 102 ∧ Only [] w1 wc)
  case first =>
    go_region_held3 (fun w' => w'.cell? ⟨ib, 0, none⟩ = some (.int .i64 p) ∧ w'.cell? ⟨ib, 1, none⟩ = some (.int .i64 f) ∧ w'.cell? ⟨ib, 2, none⟩ = some (.int .i64 hl) ∧ w'.cell? ⟨ib, 3, none⟩ = some (.int .i64 hr) ∧ w'.cell? ⟨ib, 4, none⟩ = some (.int .i64 c) ∧ w'.cell? ⟨sb, 4, none⟩ = some (.bool first))
      (first | exact ⟨d0, d1, d2, d3, d4, s4⟩ | exact ⟨keep_cell hX8 d0, keep_cell hX8 d1, keep_cell hX8 d2, keep_cell hX8 d3, keep_cell hX8 d4, keep_cell hX8 s4⟩ | exact ⟨keep_cell (hX8.trans (Only.alloc _ _ _)) d0, keep_cell (hX8.trans (Only.alloc _ _ _)) d1, keep_cell (hX8.trans (Only.alloc _ _ _)) d2, keep_cell (hX8.trans (Only.alloc _ _ _)) d3, keep_cell (hX8.trans (Only.alloc _ _ _)) d4, keep_cell (hX8.trans (Only.alloc _ _ _)) s4⟩)
      (first | (go_at_call 63; refine (HH.out _).mono ?_; rintro e w8 ⟨rfl, hX8⟩))
    all_goals go_wp2_with fail
    all_goals go_meet
    all_goals exact ⟨w8.heap.size, rfl, hX8.size, Blk.new _ _ _, ((Only.drew [] w1).trans hX8).trans (Only.alloc _ _ _)⟩
  case rest =>
    obtain ⟨nb, rfl, hnb, hB, hX⟩ := hcut
    have HB := Lib.hid hB
    have HX := Lib.hid hX
    clear hB hX d0 d1 d2 d3 d4 s4
    go_wp2_with fail
    go_ret
    exact ⟨nb, rfl, Nat.le_trans HO.out.size hnb, HB.out, HO.out.trans HX.out⟩

set_option maxRecDepth 100000 in
set_option maxHeartbeats 4000000 in
theorem side_right {sb p : Nat} {f hl hr c h lo hi : Int} {np : Value} {first : Bool} {w : World} (hS : SideAt w sb h lo hi np first) (hp : p < 32) (hf : 0 ≤ f ∧ f + pw (p + 1) - 1 ≤ 4294967295) :
    Calls Try.prog 62 #[.pointer (some ⟨sb, 0, none⟩), innerV p f hl hr c, .bool true] w (UnderPost hr (f + pw p) (f + pw (p + 1) - 1) first w) := by
  have hpp := pw_pos (p + 1)
  have hp0 := pw_pos p
  have hps := pw_succ p
  have HH := Lib.hid (fun w => inner_half p f hl hr c hp ⟨hf.1, by omega⟩ w)
  have HSP := Lib.hid (fun w => inner_span p f hl hr c hp ⟨hf.1, by omega⟩ w)
  have HS := Lib.hid hS
  unfold innerV at HH HSP ⊢
  clear hS hp hf hpp hps
  go_enter Try.func62, Try.ntmps62
  go_upto_region 2 with fail
  refine wp_name (fun w1 => Blk w1 w.heap.size #[.int .i64 p, .int .i64 f, .int .i64 hl, .int .i64 hr, .int .i64 c] 135 ∧ SideAt w1 sb h lo hi np first ∧ Only [] w w1) ⟨Blk.new _ _ _, HS.out.only (Only.alloc [] _ _) (by simp), Only.alloc _ _ _⟩ ?_
  generalize w.heap.size = ib
  rintro w0 ⟨hI, hS1, hO⟩
  have d0 := hI.cell 0 rfl
  have d1 := hI.cell 1 rfl
  have d2 := hI.cell 2 rfl
  have d3 := hI.cell 3 rfl
  have d4 := hI.cell 4 rfl
  have HI := Lib.hid hI
  have HS1 := Lib.hid hS1
  have HO0 := Lib.hid hO
  clear hI hS1 hO
  go_wp2_with fail
  refine (HSP.out _).mono ?_
  rintro e w1 ⟨rfl, hX1⟩
  have hd : Only [] w1 w1.drew := Only.drew _ _
  have hI2 := (HI.out.only hX1 (by simp)).only hd (by simp)
  have hS2 : Blk w1.drew sb #[.int .i64 h, .int .i64 lo, .int .i64 hi, np, .bool first] 102 := Blk.only (Blk.only HS1.out hX1 (by simp)) hd (by simp)
  have HO := Lib.hid (HO0.out.trans hX1)
  clear hX1 d0 d1 d2 d3 d4 HSP
  go_upto_region 3 with fail
  have d0 := hI2.cell 0 rfl
  have d1 := hI2.cell 1 rfl
  have d2 := hI2.cell 2 rfl
  have d3 := hI2.cell 3 rfl
  have d4 := hI2.cell 4 rfl
  have s4 := hS2.cell 4 rfl
  clear hd hI2 hS2
  go_cut [6] (fun s6 wc => ∃ nb, s6 = .pointer (some ⟨nb, 0, none⟩) ∧ w1.heap.size ≤ nb ∧ Blk wc nb #[.int .i64 hr, .int .i64 (f + pw p), .int .i64 (f + pw (p + 1) - 1), .pointer none, .bool first] 102 ∧ Only [] w1 wc)
  case first =>
    go_region_held3 (fun w' => w'.cell? ⟨ib, 0, none⟩ = some (.int .i64 p) ∧ w'.cell? ⟨ib, 1, none⟩ = some (.int .i64 f) ∧ w'.cell? ⟨ib, 2, none⟩ = some (.int .i64 hl) ∧ w'.cell? ⟨ib, 3, none⟩ = some (.int .i64 hr) ∧ w'.cell? ⟨ib, 4, none⟩ = some (.int .i64 c) ∧ w'.cell? ⟨sb, 4, none⟩ = some (.bool first))
      (first | exact ⟨d0, d1, d2, d3, d4, s4⟩ | exact ⟨keep_cell hX8 d0, keep_cell hX8 d1, keep_cell hX8 d2, keep_cell hX8 d3, keep_cell hX8 d4, keep_cell hX8 s4⟩ | exact ⟨keep_cell (hX8.trans (Only.alloc _ _ _)) d0, keep_cell (hX8.trans (Only.alloc _ _ _)) d1, keep_cell (hX8.trans (Only.alloc _ _ _)) d2, keep_cell (hX8.trans (Only.alloc _ _ _)) d3, keep_cell (hX8.trans (Only.alloc _ _ _)) d4, keep_cell (hX8.trans (Only.alloc _ _ _)) s4⟩)
      (first | (go_at_call 63; refine (HH.out _).mono ?_; rintro e w8 ⟨rfl, hX8⟩))
    all_goals go_wp2_with fail
    all_goals go_meet
    all_goals exact ⟨w8.heap.size, rfl, hX8.size, Blk.new _ _ _, ((Only.drew [] w1).trans hX8).trans (Only.alloc _ _ _)⟩
  case rest =>
    obtain ⟨nb, rfl, hnb, hB, hX⟩ := hcut
    have HB := Lib.hid hB
    have HX := Lib.hid hX
    clear hB hX d0 d1 d2 d3 d4 s4
    go_wp2_with fail
    go_ret
    exact ⟨nb, rfl, Nat.le_trans HO.out.size hnb, HB.out, HO.out.trans HX.out⟩

end Go.Proofs.Ytacegkjobfeiiaa

namespace Go.Proofs.Ytacegkjobfeiiaa
open Go.RowKit

/-- A side over a tree: its node has been read, or not. -/
def SideOf (w : World) (sb : Nat) (S : Nat → Sl) (y : Tr) (first : Bool) : Prop :=
  ∃ lo hi np, SideAt w sb (hnd S y) lo hi np first ∧ lo ≤ y.lo ∧ y.hi ≤ hi ∧ (np = .pointer none ∨ ∃ b, np = .pointer (some ⟨b, 0, none⟩) ∧ b ≠ sb ∧ Blk w b #[.int .i64 (hnd S y), shV S y] 125)

def SeenAt (w : World) (sb b : Nat) (S : Nat → Sl) (y : Tr) (first : Bool) : Prop :=
  ∃ lo hi, SideAt w sb (hnd S y) lo hi (.pointer (some ⟨b, 0, none⟩)) first ∧ lo ≤ y.lo ∧ y.hi ≤ hi ∧ b ≠ sb ∧ Blk w b #[.int .i64 (hnd S y), shV S y] 125

def SeePost (sb : Nat) (S : Nat → Sl) (y : Tr) (first : Bool) (w : World) (e : Ending) (w' : World) : Prop := e = .returned (.bool true) ∧ ∃ b, SeenAt w' sb b S y first ∧ Only [sb] w w'

set_option maxRecDepth 100000 in
set_option maxHeartbeats 4000000 in
theorem diff_see {A : PA} {n : Nat} {S : Nat → Sl} {t : Int} {fs : List Nat} {fa : Int} {tb db sb : Nat} {y : Tr} {first : Bool} {yv : Value} {w : World} (T : TrAt w tb A n S t fs fa) (R : Rep n S y) (wf : y.wf) (hD : Blk w db #[.pointer (some ⟨tb, 0, none⟩), .pointer none, yv] 97) (hS : SideOf w sb S y first) :
    Calls Try.prog 60 #[.pointer (some ⟨db, 0, none⟩), .pointer (some ⟨sb, 0, none⟩)] w (SeePost sb S y first w) := by
  obtain ⟨lo, hi, np, hSA, hlo, hhi, hnp⟩ := hS
  rcases hnp with rfl | ⟨b, rfl, hbs, hB⟩
  · have hrd := (fun w T => tr_read (w := w) (S := S) (tb := tb) (A := A) (n := n) (t := t) (fs := fs) (fa := fa) (lo := lo) (hi := hi) T R wf hlo hhi)
    obtain ⟨ty, sv, hsv⟩ := shV_one S y
    simp only [ndV_agg, hsv] at hrd
    have HSV := Lib.hid hsv
    have HB1 := Lib.hid (show lo ≤ y.lo ∧ y.hi ≤ hi from ⟨hlo, hhi⟩)
    have HRD : Hid (∀ W, Only [] w.drew W → Calls Try.prog 84 #[.pointer (some ⟨tb, 0, none⟩), .pointer none, .int .i64 (hnd S y), .int .i64 lo, .int .i64 hi] W fun e w' => e = .returned (.tuple #[.agg #[.int .i64 (hnd S y), .iface ty sv], .int .i64 0]) ∧ Only [] W w') := Lib.hid (fun W o => hrd W (T.plain ((Only.drew [] w).trans o)))
    have hSA2 : Blk w sb #[.int .i64 (hnd S y), .int .i64 lo, .int .i64 hi, .pointer none, .bool first] 102 := hSA
    have hSd := Blk.only hSA2 (Only.drew [] w) (by simp)
    have hDd := hD.only (Only.drew [] w) (by simp)
    have HSA := Lib.hid hSA2
    have s3 := hSA2.cell 3 rfl
    have HDL := Lib.hid hD.lt
    have HSL := Lib.hid hSA2.lt
    obtain ⟨hh, hhe⟩ : ∃ hh, hnd S y = hh := ⟨_, rfl⟩
    have HHE := Lib.hid hhe
    rw [hhe] at HRD HSA hSd
    clear T R wf hD hSA hlo hhi hrd hsv hSA2 hhe
    have s0 := hSd.cell 0 rfl
    have s1 := hSd.cell 1 rfl
    have s2 := hSd.cell 2 rfl
    have d0 := hDd.cell 0 rfl
    have d1 := hDd.cell 1 rfl
    clear hSd hDd
    go_enter Try.func60, Try.ntmps60
    go_upto_region 3 with fail
    go_cut [5, 6] (fun s5 s6 wc => s6 = .int .i64 0 ∧ ∃ b, s5 = .pointer (some ⟨b, 0, none⟩) ∧ w.heap.size ≤ b ∧ Blk wc b #[.int .i64 hh, .iface ty sv] 125 ∧ Only [] w wc)
    case first =>
      have HOA : Hid (Only [] w.drew (w.alloc (.cells #[.int .i64 0, .nilIface] 125)).drew) := Lib.hid (Only.alloc [] w.drew (.cells #[.int .i64 0, .nilIface] 125))
      have HZ : Hid (Blk (w.alloc (.cells #[.int .i64 0, .nilIface] 125)).drew w.heap.size #[.int .i64 0, .nilIface] 125) := Lib.hid (Blk.new w _ _)
      have HK1 : Hid (∀ w', Only [] w.drew w' → w'.cell? ⟨db, 0, none⟩ = some (.pointer (some ⟨tb, 0, none⟩)) ∧ w'.cell? ⟨db, 1, none⟩ = some (.pointer none) ∧ w'.cell? ⟨sb, 0, none⟩ = some (.int .i64 hh) ∧ w'.cell? ⟨sb, 1, none⟩ = some (.int .i64 lo) ∧ w'.cell? ⟨sb, 2, none⟩ = some (.int .i64 hi)) := Lib.hid (fun w' o => ⟨keep_cell o d0, keep_cell o d1, keep_cell o s0, keep_cell o s1, keep_cell o s2⟩)
      have hdl := HDL.out
      have hsl := HSL.out
      have HK2 : Hid (∀ (w1 : World) (b : Nat) (u v : Value), w.heap.size ≤ b → Only [] w.drew w1 → ((w1.setCell ⟨b, 0, none⟩ u).setCell ⟨b, 1, none⟩ v).cell? ⟨db, 0, none⟩ = some (.pointer (some ⟨tb, 0, none⟩)) ∧ ((w1.setCell ⟨b, 0, none⟩ u).setCell ⟨b, 1, none⟩ v).cell? ⟨db, 1, none⟩ = some (.pointer none) ∧ ((w1.setCell ⟨b, 0, none⟩ u).setCell ⟨b, 1, none⟩ v).cell? ⟨sb, 0, none⟩ = some (.int .i64 hh) ∧ ((w1.setCell ⟨b, 0, none⟩ u).setCell ⟨b, 1, none⟩ v).cell? ⟨sb, 1, none⟩ = some (.int .i64 lo) ∧ ((w1.setCell ⟨b, 0, none⟩ u).setCell ⟨b, 1, none⟩ v).cell? ⟨sb, 2, none⟩ = some (.int .i64 hi)) := Lib.hid (fun w1 b u v hb o => HK1.out _ (o.past ((Only.setCell (S := [b]) w1 (a := ⟨b, 0, none⟩) (by simp) u).trans (Only.setCell _ (by simp) v)) (fun x hx => by simp at hx; subst hx; exact Or.inr hb)))
      clear hdl hsl
      go_region_held3 (fun w' => w'.cell? ⟨db, 0, none⟩ = some (.pointer (some ⟨tb, 0, none⟩)) ∧ w'.cell? ⟨db, 1, none⟩ = some (.pointer none) ∧ w'.cell? ⟨sb, 0, none⟩ = some (.int .i64 hh) ∧ w'.cell? ⟨sb, 1, none⟩ = some (.int .i64 lo) ∧ w'.cell? ⟨sb, 2, none⟩ = some (.int .i64 hi))
        (first | exact ⟨d0, d1, s0, s1, s2⟩ | exact HK1.out _ HOA.out | exact HK1.out _ hX8 | exact HK1.out _ (hX8.trans (Only.alloc _ _ _)) | exact HK1.out _ (HOA.out.trans hX8) | exact HK2.out _ _ _ _ (Nat.le_refl _) (HOA.out.trans hX8) | exact HK2.out _ _ _ _ hX8.size (hX8.trans (Only.alloc _ _ _)))
        (first | (go_at_call 84; refine (HRD.out w.drew (Only.refl _ _)).mono ?_; rintro e w8 ⟨rfl, hX8⟩) | (go_at_call 84; refine (HRD.out (w.alloc (.cells #[.int .i64 0, .nilIface] 125)).drew HOA.out).mono ?_; rintro e w8 ⟨rfl, hX8⟩; have hz8 := HZ.out.only hX8 (by simp); have k0 := hz8.cell 0 rfl; have k1 := hz8.cell 1 rfl; have g0 := hz8.free 0; have g1 := hz8.free 1; have HZ8 := Lib.hid hz8; clear hz8))
      all_goals go_wp2_with fail
      all_goals go_meet
      all_goals first
        | exact ⟨rfl, _, rfl, Nat.le_refl _, (HZ8.out.set_same 0 (.int .i64 hh)).set_same 1 (.iface ty sv), (((Only.drew [] w).trans HOA.out).trans hX8).past ((Only.setCell (S := [w.heap.size]) _ (by simp) _).trans (Only.setCell _ (by simp) _)) (fun x hx => by simp at hx; subst hx; exact Or.inr (Nat.le_refl _))⟩
        | exact ⟨rfl, _, rfl, hX8.size, Blk.new _ _ _, ((Only.drew [] w).trans hX8).trans (Only.alloc _ _ _)⟩
    case rest =>
      obtain ⟨rfl, b, rfl, hb, hB, hX⟩ := hcut
      have hS5 := HSA.out.only hX (by simp)
      have h3 := hS5.cell 3 rfl
      have g3 := hS5.free 3
      have HS5 := Lib.hid hS5
      have HB5 := Lib.hid hB
      have HX5 := Lib.hid hX
      have hbs : sb ≠ b := by have := HSL.out; omega
      clear hS5 hB hX s0 s1 s2 d0 d1 s3 hb
      go_wp2_with fail
      go_ret
      have hX6 : Only [sb] wc (wc.setCell ⟨sb, 3, none⟩ (.pointer (some ⟨b, 0, none⟩))) := Only.setCell _ (by simp) _
      refine ⟨rfl, b, ⟨lo, hi, ?_, HB1.out.1, HB1.out.2, fun e => hbs e.symm, ?_⟩, (HX5.out.mono (by simp)).trans hX6⟩
      · have := HS5.out.set_same 3 (.pointer (some ⟨b, 0, none⟩))
        rw [HHE.out]
        simpa [SideAt] using this
      · rw [HHE.out, HSV.out]
        exact HB5.out.only hX6 (by simp; exact fun e => hbs e.symm)
  · have hSA2 : Blk w sb #[.int .i64 (hnd S y), .int .i64 lo, .int .i64 hi, .pointer (some ⟨b, 0, none⟩), .bool first] 102 := hSA
    have s3 := hSA2.cell 3 rfl
    have HP := Lib.hid (show SeenAt w sb b S y first from ⟨lo, hi, hSA, hlo, hhi, hbs, hB⟩)
    clear T R wf hD hSA hlo hhi hbs hB hSA2
    go_enter Try.func60, Try.ntmps60
    go_wp2_with fail
    go_ret
    exact ⟨rfl, b, HP.out, Only.refl _ _⟩

end Go.Proofs.Ytacegkjobfeiiaa

namespace Go.Proofs.Ytacegkjobfeiiaa
open Go.RowKit

/-- given's closure as a value. -/
def yldV (eb wb xb ob nb : Nat) : Value := .func (.func 31) #[] #[.pointer (some ⟨eb, 0, none⟩), .pointer (some ⟨wb, 0, none⟩), .pointer (some ⟨xb, 0, none⟩), .pointer (some ⟨ob, 0, none⟩), .pointer (some ⟨nb, 0, none⟩)]

/-- So many changes more have come. -/
def MorePost (eb wb xb ob nb base : Nat) (v : Value) (L M : List Ch2) (X : List Nat) (w : World) (e : Ending) (w' : World) : Prop :=
  e = .returned (.bool true) ∧ ∃ v', Got w' eb wb xb ob nb base v' (L ++ M) ∧ Only (X ++ gotB eb wb xb ob nb v) w w' ∧ ∀ b, v'.ownBlock = some b → v.ownBlock = some b ∨ w.heap.size ≤ b

set_option maxRecDepth 100000 in
set_option maxHeartbeats 4000000 in
theorem leaves_same {db : Nat} {k k2 va : Int} {w : World} :
    Calls Try.prog 61 #[.pointer (some ⟨db, 0, none⟩), .agg #[.int .i64 k, .int .i64 va], .agg #[.int .i64 k2, .int .i64 va]] w fun e w' => e = .returned (.bool true) ∧ Only [] w w' := by
  go_enter Try.func61, Try.ntmps61
  go_upto_region 1 with fail
  refine wp_name (fun w1 => Blk w1 w.heap.size #[.int .i64 k, .int .i64 va] 129 ∧ Blk w1 (w.heap.size + 1) #[.int .i64 k2, .int .i64 va] 129 ∧ Only [] w w1) ⟨(Blk.new _ _ _).alloc _, ?_, (Only.alloc [] _ _).trans (Only.alloc [] _ _)⟩ ?_
  · have := Blk.new (w.alloc (.cells #[.int .i64 k, .int .i64 va] 129)) #[.int .i64 k2, .int .i64 va] 129
    simpa using this
  generalize w.heap.size = lb
  rintro w1 ⟨hA, hB, hO⟩
  have a1 := hA.cell 1 rfl
  have b1 := hB.cell 1 rfl
  have HO := Lib.hid hO
  have hvv : (va == va) = true := by simp
  clear hA hB hO
  go_quiet (fail)
  go_wp2_with fail
  go_ret
  exact ⟨rfl, HO.out.trans (Only.drewN [] _ _)⟩

set_option maxRecDepth 100000 in
set_option maxHeartbeats 4000000 in
theorem leaves_differ {db eb wb xb ob nb base : Nat} {v yt ywk : Value} {L : List Ch2} {k k2 va vb : Int} {w : World} (h : Got w eb wb xb ob nb base v L) (hl : L.length ≤ 1000000) (hb : base ≤ w.heap.size) (hD : Blk w db #[yt, ywk, yldV eb wb xb ob nb] 97) (hne : va ≠ vb) (hdn : db ∉ gotB eb wb xb ob nb v) :
    Calls Try.prog 61 #[.pointer (some ⟨db, 0, none⟩), .agg #[.int .i64 k, .int .i64 va], .agg #[.int .i64 k2, .int .i64 vb]] w (MorePost eb wb xb ob nb base v L [.chg k va vb] [] w) := by
  have HGO : Hid (∀ W, Only [] w W → Calls Try.prog 31 #[.agg #[.int .i64 k, .int .i64 va, .int .i64 vb, .bool true, .bool true], .int .i64 0, .pointer (some ⟨eb, 0, none⟩), .pointer (some ⟨wb, 0, none⟩), .pointer (some ⟨xb, 0, none⟩), .pointer (some ⟨ob, 0, none⟩), .pointer (some ⟨nb, 0, none⟩)] W (GotPost eb wb xb ob nb base v L (.chg k va vb) W)) :=
    Lib.hid (fun W o => got_one (c := .chg k va vb) (h.only o (by simp)) hl (Nat.le_trans hb o.size))
  have HL := Lib.hid h.lt
  have hvv : (va == vb) = false := by simp [hne]
  have HD := Lib.hid hD
  have HDN := Lib.hid hdn
  clear h hl hb hD hne hdn
  unfold yldV at HD
  go_enter Try.func61, Try.ntmps61
  go_upto_region 1 with fail
  refine wp_name (fun w1 => Blk w1 w.heap.size #[.int .i64 k, .int .i64 va] 129 ∧ Blk w1 (w.heap.size + 1) #[.int .i64 k2, .int .i64 vb] 129 ∧ Only [] w w1) ⟨(Blk.new _ _ _).alloc _, ?_, (Only.alloc [] _ _).trans (Only.alloc [] _ _)⟩ ?_
  · have := Blk.new (w.alloc (.cells #[.int .i64 k, .int .i64 va] 129)) #[.int .i64 k2, .int .i64 vb] 129
    simpa using this
  obtain ⟨lb, hlb⟩ : ∃ lb, w.heap.size = lb := ⟨_, rfl⟩
  have HLB := Lib.hid hlb
  rw [hlb]
  clear hlb
  rintro w1 ⟨hA, hB, hO⟩
  have hd : Only [] w1 w1.drew := Only.drew _ _
  have hA1 := hA.only hd (by simp)
  have hB1 := hB.only hd (by simp)
  have hD1 := HD.out.only (hO.trans hd) (by simp)
  have a0 := hA1.cell 0 rfl
  have a1 := hA1.cell 1 rfl
  have b1 := hB1.cell 1 rfl
  have d2 : w1.drew.cell? ⟨db, 2, none⟩ = some (.func (.func 31) #[] #[.pointer (some ⟨eb, 0, none⟩), .pointer (some ⟨wb, 0, none⟩), .pointer (some ⟨xb, 0, none⟩), .pointer (some ⟨ob, 0, none⟩), .pointer (some ⟨nb, 0, none⟩)]) := hD1.cell 2 rfl
  have HO := Lib.hid (hO.trans hd)
  have HA1 := Lib.hid hA1
  have HB1 := Lib.hid hB1
  have HD1 := Lib.hid hD1
  clear hA hB hO hd hA1 hB1 hD1
  have hKP : Hid (∀ w', Only (gotB eb wb xb ob nb v) w1.drew w' → w'.cell? ⟨lb, 0, none⟩ = some (.int .i64 k) ∧ w'.cell? ⟨lb, 1, none⟩ = some (.int .i64 va) ∧ w'.cell? ⟨lb + 1, 1, none⟩ = some (.int .i64 vb) ∧ w'.cell? ⟨db, 2, none⟩ = some (.func (.func 31) #[] #[.pointer (some ⟨eb, 0, none⟩), .pointer (some ⟨wb, 0, none⟩), .pointer (some ⟨xb, 0, none⟩), .pointer (some ⟨ob, 0, none⟩), .pointer (some ⟨nb, 0, none⟩)])) := by
    intro w' o
    have h1 := HA1.out.only o (fun hm => by have := HL.out _ hm; have := HLB.out; omega)
    have h2 := HB1.out.only o (fun hm => by have := HL.out _ hm; have := HLB.out; omega)
    have h3 := HD1.out.only o HDN.out
    exact ⟨h1.cell 0 rfl, h1.cell 1 rfl, h2.cell 1 rfl, h3.cell 2 rfl⟩
  go_region_held3 (fun w' => w'.cell? ⟨lb, 0, none⟩ = some (.int .i64 k) ∧ w'.cell? ⟨lb, 1, none⟩ = some (.int .i64 va) ∧ w'.cell? ⟨lb + 1, 1, none⟩ = some (.int .i64 vb) ∧ w'.cell? ⟨db, 2, none⟩ = some (.func (.func 31) #[] #[.pointer (some ⟨eb, 0, none⟩), .pointer (some ⟨wb, 0, none⟩), .pointer (some ⟨xb, 0, none⟩), .pointer (some ⟨ob, 0, none⟩), .pointer (some ⟨nb, 0, none⟩)]))
    (first | exact ⟨a0, a1, b1, d2⟩ | exact hKP.out _ hX8)
    (first | (go_at_call 31; refine (HGO.out w1.drew HO.out).mono ?_; rintro e w8 ⟨rfl, v8, hG8, hX8, hn8⟩))
  have HG8 := Lib.hid hG8
  have HX8 := Lib.hid hX8
  have HN8 := Lib.hid hn8
  clear hG8 hX8 hn8 a0 a1 b1 d2
  go_wp2_with fail
  go_ret
  exact ⟨rfl, v8, HG8.out, (HO.out.mono (by simp)).trans (HX8.out.mono (by simp)), fun b hb => (HN8.out b hb).imp id (fun h => by have := HO.out.size; omega)⟩

end Go.Proofs.Ytacegkjobfeiiaa

namespace Go.Proofs.Ytacegkjobfeiiaa
open Go.RowKit

/-- All of one map's half as changes. -/
def allC (first : Bool) (y : Tr) : List Ch2 := y.pairs.map fun x => if first then Ch2.del x.1 x.2 else Ch2.add x.1 x.2

theorem allC_node (first : Bool) (i p : Nat) (f : Int) (l r : Tr) : allC first (.node i p f l r) = allC first l ++ allC first r := by simp [allC, Tr.pairs]
theorem allC_length (first : Bool) (y : Tr) : (allC first y).length = y.cnt := by simp [allC, Tr.cnt_pairs]

/-- What stands while changes come: the map, the differ, given's variables. -/
structure Dcx (A : PA) (n : Nat) (S : Nat → Sl) (t : Int) (fs : List Nat) (fa : Int) (tb db eb wb xb ob nb base : Nat) (v : Value) (L : List Ch2) (w : World) : Prop where
  tr : TrAt w tb A n S t fs fa
  df : Blk w db #[.pointer (some ⟨tb, 0, none⟩), .pointer none, yldV eb wb xb ob nb] 97
  got : Got w eb wb xb ob nb base v L
  dn : db ∉ gotB eb wb xb ob nb v
  tn : tb ∉ gotB eb wb xb ob nb v
  an : ∀ k, k ∈ A.all → k ∉ gotB eb wb xb ob nb v
  td : tb ≠ db
  ad : db ∉ A.all
  base : base ≤ w.heap.size

theorem Dcx.only {A : PA} {n : Nat} {S : Nat → Sl} {t : Int} {fs : List Nat} {fa : Int} {tb db eb wb xb ob nb base : Nat} {v : Value} {L : List Ch2} {w w' : World} {X : List Nat} (h : Dcx A n S t fs fa tb db eb wb xb ob nb base v L w) (o : Only X w w') (h1 : tb ∉ X) (h2 : db ∉ X) (h3 : ∀ k, k ∈ A.all → k ∉ X) (h4 : ∀ k, k ∈ gotB eb wb xb ob nb v → k ∉ X) : Dcx A n S t fs fa tb db eb wb xb ob nb base v L w' :=
  ⟨h.tr.other o h1 h3, h.df.only o h2, h.got.only o h4, h.dn, h.tn, h.an, h.td, h.ad, Nat.le_trans h.base o.size⟩

theorem Dcx.plain {A : PA} {n : Nat} {S : Nat → Sl} {t : Int} {fs : List Nat} {fa : Int} {tb db eb wb xb ob nb base : Nat} {v : Value} {L : List Ch2} {w w' : World} (h : Dcx A n S t fs fa tb db eb wb xb ob nb base v L w) (o : Only [] w w') : Dcx A n S t fs fa tb db eb wb xb ob nb base v L w' := h.only o (by simp) (by simp) (by simp) (by simp)

/-- A block that is older than the world and no variable's stays none, whatever has come. -/
theorem gotB_old {eb wb xb ob nb : Nat} {v v' : Value} {w : World} {b : Nat} (hb : b < w.heap.size) (hn : b ∉ gotB eb wb xb ob nb v) (hv : ∀ b, v'.ownBlock = some b → v.ownBlock = some b ∨ w.heap.size ≤ b) : b ∉ gotB eb wb xb ob nb v' := by
  intro hm
  apply hn
  simp only [gotB, List.mem_cons] at hm ⊢
  rcases hm with h | h | h | h | h | h
  · exact Or.inl h
  · exact Or.inr (Or.inl h)
  · exact Or.inr (Or.inr (Or.inl h))
  · exact Or.inr (Or.inr (Or.inr (Or.inl h)))
  · exact Or.inr (Or.inr (Or.inr (Or.inr (Or.inl h))))
  · rcases hv b (by simpa using h) with h1 | h1
    · exact Or.inr (Or.inr (Or.inr (Or.inr (Or.inr (by simp [h1])))))
    · omega

/-- Behind more changes all stands as before. -/
theorem Dcx.more {A : PA} {n : Nat} {S : Nat → Sl} {t : Int} {fs : List Nat} {fa : Int} {tb db eb wb xb ob nb base : Nat} {v : Value} {L M : List Ch2} {X : List Nat} {w w' : World} {e : Ending} (h : Dcx A n S t fs fa tb db eb wb xb ob nb base v L w) (m : MorePost eb wb xb ob nb base v L M X w e w') (h1 : tb ∉ X) (h2 : db ∉ X) (h3 : ∀ k, k ∈ A.all → k ∉ X) :
    ∃ v', Dcx A n S t fs fa tb db eb wb xb ob nb base v' (L ++ M) w' ∧ Only (X ++ gotB eb wb xb ob nb v) w w' ∧ ∀ b, v'.ownBlock = some b → v.ownBlock = some b ∨ w.heap.size ≤ b := by
  obtain ⟨_, v', hG, hX, hv⟩ := m
  have hlt := h.tr.lt
  refine ⟨v', ⟨h.tr.other hX ?_ ?_, h.df.only hX ?_, hG, gotB_old h.df.lt h.dn hv, gotB_old hlt.1 h.tn hv, fun k hk => gotB_old (hlt.2 k hk) (h.an k hk) hv, h.td, h.ad, Nat.le_trans h.base hX.size⟩, hX, hv⟩
  · rw [List.mem_append]; rintro (h | h'); exact h1 h; exact h.tn h'
  · intro k hk; rw [List.mem_append]; rintro (h' | h'); exact h3 k hk h'; exact h.an k hk h'
  · rw [List.mem_append]; rintro (h' | h'); exact h2 h'; exact h.dn h'

end Go.Proofs.Ytacegkjobfeiiaa

namespace Go.Proofs.Ytacegkjobfeiiaa
open Go.RowKit

set_option maxRecDepth 100000 in
set_option maxHeartbeats 4000000 in
theorem all_leaf {A : PA} {n : Nat} {S : Nat → Sl} {t : Int} {fs : List Nat} {fa : Int} {tb db eb wb xb ob nb base sb : Nat} {v : Value} {L : List Ch2} {w : World} {i : Nat} {k u : Int} {first : Bool} (h : Dcx A n S t fs fa tb db eb wb xb ob nb base v L w) (R : Rep n S (.leaf i k u)) (wf : (Tr.leaf i k u).wf) (hS : SideOf w sb S (.leaf i k u) first) (hl : L.length ≤ 1000000)
    (s1 : tb ≠ sb) (s2 : db ≠ sb) (s3 : sb ∉ A.all) (s4 : sb ∉ gotB eb wb xb ob nb v) :
    Calls Try.prog 59 #[.pointer (some ⟨db, 0, none⟩), .pointer (some ⟨sb, 0, none⟩)] w (MorePost eb wb xb ob nb base v L (allC first (.leaf i k u)) [sb] w) := by
  have HSEE := Lib.hid (diff_see h.tr R wf h.df hS)
  have HH := Lib.hid h
  have HS12 := Lib.hid (show tb ≠ sb ∧ db ≠ sb ∧ sb ∉ A.all ∧ sb ∉ gotB eb wb xb ob nb v from ⟨s1, s2, s3, s4⟩)
  have HL := Lib.hid hl
  clear h R wf hS hl s1 s2 s3 s4
  go_enter Try.func59, Try.ntmps59
  go_wp2_with fail
  refine HSEE.out.mono ?_
  rintro e w1 ⟨rfl, b, ⟨lo, hi, hSA, _, _, hbs, hB⟩, hX1⟩
  have hSA2 : Blk w1 sb #[.int .i64 (hnd S (.leaf i k u)), .int .i64 lo, .int .i64 hi, .pointer (some ⟨b, 0, none⟩), .bool first] 102 := hSA
  have h1 := HH.out.only hX1 (by simp; exact HS12.out.1) (by simp; exact HS12.out.2.1) (fun k hk hm => by simp at hm; exact HS12.out.2.2.1 (hm ▸ hk)) (fun k hk hm => by simp at hm; exact HS12.out.2.2.2 (hm ▸ hk))
  have H1 := Lib.hid h1
  have HX1 := Lib.hid hX1
  have HSA := Lib.hid hSA2
  have c3 := hSA2.cell 3 rfl
  have c4 := hSA2.cell 4 rfl
  have b1 : w1.cell? ⟨b, 1, none⟩ = some (.iface 129 (.agg #[.int .i64 k, .int .i64 u])) := hB.cell 1 rfl
  have hta := assertL_leaf k u
  clear hSA hB hX1 hSA2 h1 HSEE
  go_upto_region 6 with fail
  refine wp_name (fun w2 => Dcx A n S t fs fa tb db eb wb xb ob nb base v L w2 ∧ Blk w2 w1.heap.size #[.int .i64 k, .int .i64 u] 129 ∧ Blk w2 sb #[.int .i64 (hnd S (.leaf i k u)), .int .i64 lo, .int .i64 hi, .pointer (some ⟨b, 0, none⟩), .bool first] 102 ∧ Only [sb] w w2) ⟨H1.out.plain (Only.alloc _ _ _), Blk.new _ _ _, HSA.out.alloc _, HX1.out.trans (Only.alloc _ _ _)⟩ ?_
  generalize w1.heap.size = lb
  clear c3 c4 b1 hta H1 HX1 HSA
  rintro w2 ⟨h2, hL2, hS2, hX2⟩
  have H2 := Lib.hid h2
  have HL2 := Lib.hid hL2
  have HS2 := Lib.hid hS2
  have HX2 := Lib.hid hX2
  have l0 := hL2.cell 0 rfl
  have l1 := hL2.cell 1 rfl
  have c4 := hS2.cell 4 rfl
  have c4a : (w2.alloc (.cells #[.int .i64 k, .int .i64 0, .int .i64 u, .bool false, .bool true] 47)).cell? ⟨sb, 4, none⟩ = some (.bool first) := (hS2.alloc (.cells #[.int .i64 k, .int .i64 0, .int .i64 u, .bool false, .bool true] 47)).cell 4 rfl
  clear h2 hL2 hS2 hX2
  go_upto_if 30 with fail
  refine wp_name (fun w3 => Dcx A n S t fs fa tb db eb wb xb ob nb base v L w3 ∧ Blk w3 lb #[.int .i64 k, .int .i64 u] 129 ∧ Blk w3 w2.heap.size #[.int .i64 k, .int .i64 0, .int .i64 u, .bool false, .bool true] 47 ∧ Only [sb] w w3 ∧ w2.heap.size < w3.heap.size) ⟨H2.out.plain (Only.alloc _ _ _), HL2.out.alloc _, Blk.new _ _ _, HX2.out.trans (Only.alloc _ _ _), by simp⟩ ?_
  have hcb : lb < w2.heap.size ∧ w.heap.size ≤ w2.heap.size := ⟨HL2.out.lt, HX2.out.size⟩
  have hold := H2.out
  have HOLD : Hid (tb ≠ w2.heap.size ∧ db ≠ w2.heap.size ∧ w2.heap.size ∉ A.all ∧ w2.heap.size ∉ gotB eb wb xb ob nb v) := Lib.hid ⟨by have := hold.tr.lt.1; omega, by have := hold.df.lt; omega, fun hm => by have := hold.tr.lt.2 _ hm; omega, fun hm => by have := hold.got.lt _ hm; omega⟩
  clear hold
  generalize w2.heap.size = cb at hcb HOLD ⊢
  obtain ⟨hcb1, hcb2⟩ := hcb
  clear l0 l1 c4 c4a H2 HL2 HS2 HX2
  rintro w3 ⟨h3, hL3, hC3, hX3, hz3⟩
  have H3 := Lib.hid h3
  have HC3 := Lib.hid hC3
  have HX3 := Lib.hid hX3
  have l0 := hL3.cell 0 rfl
  have l1 := hL3.cell 1 rfl
  have g0 := hC3.free 0
  have g1 := hC3.free 1
  have g2 := hC3.free 2
  have g3 := hC3.free 3
  have g4 := hC3.free 4
  have p0 := hC3.cell 0 rfl
  have p1 := hC3.cell 1 rfl
  have p2 := hC3.cell 2 rfl
  have p3 := hC3.cell 3 rfl
  have p4 := hC3.cell 4 rfl
  clear h3 hL3 hC3 hX3 hz3
  obtain ⟨c, hc⟩ : ∃ c : Ch2, (if first then Ch2.del k u else Ch2.add k u) = c := ⟨_, rfl⟩
  have HC := Lib.hid hc
  clear hc
  go_cut [6] (fun s6 wc => s6 = .pointer (some ⟨cb, 0, none⟩) ∧ Dcx A n S t fs fa tb db eb wb xb ob nb base v L wc ∧ Blk wc cb #[.int .i64 c.key, .int .i64 c.old, .int .i64 c.new, .bool c.had, .bool c.has] 47 ∧ Only [sb] w wc)
  case first =>
    cases first
    · go_wp2_with fail
      go_meet
      case rel => exact ⟨rfl, H3.out, by rw [← HC.out]; exact HC3.out, HX3.out⟩
    · go_wp2_with fail
      go_meet
      case rel =>
        have h5 := HC3.out.fill5 (.int .i64 k) (.int .i64 u) (.int .i64 0) (.bool true) (.bool false)
        refine ⟨rfl, H3.out.only h5.2 (by simp; exact HOLD.out.1) (by simp; exact HOLD.out.2.1) (fun k hk hm => by simp at hm; exact HOLD.out.2.2.1 (hm ▸ hk)) (fun k hk hm => by simp at hm; exact HOLD.out.2.2.2 (hm ▸ hk)), by rw [← HC.out]; exact h5.1, HX3.out.past h5.2 (fun x hx => by simp at hx; subst hx; exact Or.inr hcb2)⟩
  case rest =>
    obtain ⟨rfl, h4, hC4, hX4⟩ := hcut
    have hd := Only.drew [] wc
    have h5 := h4.plain hd
    have hC5 := hC4.only hd (by simp)
    have H5 := Lib.hid h5
    have HC5 := Lib.hid hC5
    have HX5 := Lib.hid (hX4.trans (hd.mono (by simp)))
    have HGO := Lib.hid (got_one (c := c) h5.got HL.out h5.base)
    have d2 : wc.drew.cell? ⟨db, 2, none⟩ = some (.func (.func 31) #[] #[.pointer (some ⟨eb, 0, none⟩), .pointer (some ⟨wb, 0, none⟩), .pointer (some ⟨xb, 0, none⟩), .pointer (some ⟨ob, 0, none⟩), .pointer (some ⟨nb, 0, none⟩)]) := h5.df.cell 2 rfl
    obtain ⟨ck, hck⟩ : ∃ ck, c.key = ck := ⟨_, rfl⟩
    obtain ⟨co, hco⟩ : ∃ co, c.old = co := ⟨_, rfl⟩
    obtain ⟨cn, hcn⟩ : ∃ cn, c.new = cn := ⟨_, rfl⟩
    obtain ⟨ch, hch⟩ : ∃ ch, c.had = ch := ⟨_, rfl⟩
    obtain ⟨cs, hcs⟩ : ∃ cs, c.has = cs := ⟨_, rfl⟩
    rw [hck, hco, hcn, hch, hcs] at HGO HC5
    have t0 := HC5.out.cell 0 rfl
    have t1 := HC5.out.cell 1 rfl
    have t2 := HC5.out.cell 2 rfl
    have t3 := HC5.out.cell 3 rfl
    have t4 := HC5.out.cell 4 rfl
    clear hd h5 hC5 h4 hC4 hX4 hck hco hcn hch hcs p0 p1 p2 p3 p4 g0 g1 g2 g3 g4 l0 l1 H3 HC3 HX3
    have hKP : Hid (∀ w', Only (gotB eb wb xb ob nb v) wc.drew w' → w'.cell? ⟨db, 2, none⟩ = some (.func (.func 31) #[] #[.pointer (some ⟨eb, 0, none⟩), .pointer (some ⟨wb, 0, none⟩), .pointer (some ⟨xb, 0, none⟩), .pointer (some ⟨ob, 0, none⟩), .pointer (some ⟨nb, 0, none⟩)]) ∧ w'.cell? ⟨cb, 0, none⟩ = some (.int .i64 ck) ∧ w'.cell? ⟨cb, 1, none⟩ = some (.int .i64 co) ∧ w'.cell? ⟨cb, 2, none⟩ = some (.int .i64 cn) ∧ w'.cell? ⟨cb, 3, none⟩ = some (.bool ch) ∧ w'.cell? ⟨cb, 4, none⟩ = some (.bool cs)) := by
      intro w' o
      have h1 := HC5.out.only o HOLD.out.2.2.2
      have h3 : Blk w' db #[.pointer (some ⟨tb, 0, none⟩), .pointer none, yldV eb wb xb ob nb] 97 := H5.out.df.only o H5.out.dn
      exact ⟨h3.cell 2 rfl, h1.cell 0 rfl, h1.cell 1 rfl, h1.cell 2 rfl, h1.cell 3 rfl, h1.cell 4 rfl⟩
    go_wp2_with fail
    go_region_held3 (fun w' => w'.cell? ⟨db, 2, none⟩ = some (.func (.func 31) #[] #[.pointer (some ⟨eb, 0, none⟩), .pointer (some ⟨wb, 0, none⟩), .pointer (some ⟨xb, 0, none⟩), .pointer (some ⟨ob, 0, none⟩), .pointer (some ⟨nb, 0, none⟩)]) ∧ w'.cell? ⟨cb, 0, none⟩ = some (.int .i64 ck) ∧ w'.cell? ⟨cb, 1, none⟩ = some (.int .i64 co) ∧ w'.cell? ⟨cb, 2, none⟩ = some (.int .i64 cn) ∧ w'.cell? ⟨cb, 3, none⟩ = some (.bool ch) ∧ w'.cell? ⟨cb, 4, none⟩ = some (.bool cs))
      (first | exact ⟨d2, t0, t1, t2, t3, t4⟩ | exact hKP.out _ hX8)
      (first | (go_at_call 31; refine HGO.out.mono ?_; rintro e w8 ⟨rfl, v8, hG8, hX8, hn8⟩))
    have HG8 := Lib.hid hG8
    have HX8 := Lib.hid hX8
    have HN8 := Lib.hid hn8
    clear hG8 hX8 hn8 d2 t0 t1 t2 t3 t4
    go_wp2_with fail
    go_ret
    have hM : allC first (.leaf i k u) = [c] := by
      rw [← HC.out]
      cases first <;> rfl
    refine ⟨rfl, v8, by rw [hM]; exact HG8.out, (HX5.out.mono (by simp)).trans (HX8.out.mono (by intro x hx; exact List.mem_append_right _ hx)), fun b hb => (HN8.out b hb).imp id (fun h => by have := HX5.out.size; omega)⟩

end Go.Proofs.Ytacegkjobfeiiaa

namespace Go.Proofs.Ytacegkjobfeiiaa
open Go.RowKit

set_option maxRecDepth 100000 in
set_option maxHeartbeats 4000000 in
theorem diff_all {A : PA} {n : Nat} {S : Nat → Sl} {t : Int} {fs : List Nat} {fa : Int} {tb db eb wb xb ob nb base : Nat} {first : Bool} (y : Tr) : ∀ {sb : Nat} {v : Value} {L : List Ch2} {w : World}, Dcx A n S t fs fa tb db eb wb xb ob nb base v L w → Rep n S y → y.wf → SideOf w sb S y first → L.length + y.cnt ≤ 1000000 →
    tb ≠ sb → db ≠ sb → sb ∉ A.all → sb ∉ gotB eb wb xb ob nb v →
    Calls Try.prog 59 #[.pointer (some ⟨db, 0, none⟩), .pointer (some ⟨sb, 0, none⟩)] w (MorePost eb wb xb ob nb base v L (allC first y) [sb] w) := by
  induction y with
  | leaf i k u =>
    intro sb v L w h R wf hS hl s1 s2 s3 s4
    exact all_leaf h R wf hS (by simp only [Tr.cnt] at hl; omega) s1 s2 s3 s4
  | node i p f l r ihl ihr =>
    intro sb v L w h R wf hS hl s1 s2 s3 s4
    have HSEE := Lib.hid (diff_see h.tr R wf h.df hS)
    have IHL := Lib.hid (fun (sb : Nat) (v : Value) (L : List Ch2) (w : World) => @ihl sb v L w)
    have IHR := Lib.hid (fun (sb : Nat) (v : Value) (L : List Ch2) (w : World) => @ihr sb v L w)
    have HH := Lib.hid h
    have HS12 := Lib.hid (show tb ≠ sb ∧ db ≠ sb ∧ sb ∉ A.all ∧ sb ∉ gotB eb wb xb ob nb v from ⟨s1, s2, s3, s4⟩)
    have HL := Lib.hid hl
    have HR := Lib.hid R
    have HWF := Lib.hid wf
    clear h R wf hS hl s1 s2 s3 s4 ihl ihr
    go_enter Try.func59, Try.ntmps59
    go_wp2_with fail
    refine HSEE.out.mono ?_
    rintro e w1 ⟨rfl, b, ⟨lo, hi, hSA, _, _, hbs, hB⟩, hX1⟩
    have hSA2 : Blk w1 sb #[.int .i64 (hnd S (.node i p f l r)), .int .i64 lo, .int .i64 hi, .pointer (some ⟨b, 0, none⟩), .bool first] 102 := hSA
    have h1 := HH.out.only hX1 (by simp; exact HS12.out.1) (by simp; exact HS12.out.2.1) (fun k hk hm => by simp at hm; exact HS12.out.2.2.1 (hm ▸ hk)) (fun k hk hm => by simp at hm; exact HS12.out.2.2.2 (hm ▸ hk))
    have H1 := Lib.hid h1
    have HX1 := Lib.hid hX1
    have HSA := Lib.hid hSA2
    have c3 := hSA2.cell 3 rfl
    have b1 : w1.cell? ⟨b, 1, none⟩ = some (.iface 135 (.agg #[.int .i64 p, .int .i64 f, .int .i64 (hnd S l), .int .i64 (hnd S r), .int .i64 ((Tr.node i p f l r).cnt : Nat)])) := hB.cell 1 rfl
    have hta : ∀ w, (Instr.typeAssert (.iface 135 (.agg #[.int .i64 p, .int .i64 f, .int .i64 (hnd S l), .int .i64 (hnd S r), .int .i64 ((Tr.node i p f l r).cnt : Nat)])) 123 129 true).run Try.prog w = _ := fun w => assertL_inner p f (hnd S l) (hnd S r) ((Tr.node i p f l r).cnt : Nat) w
    have htb := assert_inner p f (hnd S l) (hnd S r) ((Tr.node i p f l r).cnt : Nat)
    clear hSA hB hX1 hSA2 h1 HSEE
    generalize hvl : hnd S l = vl at *
    generalize hvr : hnd S r = vr at *
    generalize hvc : (((Tr.node i p f l r).cnt : Nat) : Int) = vc at *
    generalize hvh : hnd S (.node i p f l r) = vh at *
    have HVL := Lib.hid hvl
    have HVR := Lib.hid hvr
    clear hvl hvr hvc hvh
    go_upto_region 12 with fail
    refine wp_name (fun w2 => Dcx A n S t fs fa tb db eb wb xb ob nb base v L w2 ∧ Blk w2 w1.heap.size #[.int .i64 p, .int .i64 f, .int .i64 vl, .int .i64 vr, .int .i64 vc] 135 ∧ Blk w2 sb #[.int .i64 vh, .int .i64 lo, .int .i64 hi, .pointer (some ⟨b, 0, none⟩), .bool first] 102 ∧ Only [sb] w w2) ⟨H1.out.plain (Only.alloc _ _ _), Blk.new _ _ _, HSA.out.alloc _, HX1.out.trans (Only.alloc _ _ _)⟩ ?_
    have hib : sb < w1.heap.size := HSA.out.lt
    have hszw : w.heap.size ≤ w1.heap.size := HX1.out.size
    have HIB1 : Hid (w1.heap.size = w1.heap.size) := Lib.hid rfl
    clear HIB1
    have HIB : Hid (∀ k, k ∈ gotB eb wb xb ob nb v → k < w1.heap.size) := Lib.hid H1.out.got.lt
    generalize w1.heap.size = ib at hib hszw HIB ⊢
    clear c3 b1 hta htb H1 HX1 HSA
    rintro w2 ⟨h2, hI2, hS2, hX2⟩
    have H2 := Lib.hid h2
    have HI2 := Lib.hid hI2
    have HS2 := Lib.hid hS2
    have HX2 := Lib.hid hX2
    have d0 := hI2.cell 0 rfl
    have d1 := hI2.cell 1 rfl
    have d2 := hI2.cell 2 rfl
    have d3 := hI2.cell 3 rfl
    have d4 := hI2.cell 4 rfl
    have hib2 : ib < w2.heap.size := hI2.lt
    have HSZW : Hid (w.heap.size ≤ w2.heap.size) := Lib.hid (by omega)
    obtain ⟨hp, hq, hf0, hfM, wl, wr, a1, a2, a3, a4⟩ := HWF.out
    have HLF := Lib.hid (side_left (hl := vl) (hr := vr) (c := vc) (show SideAt w2 sb vh lo hi (.pointer (some ⟨b, 0, none⟩)) first from hS2) hp ⟨hf0, hfM⟩)
    have HWW := Lib.hid (show p < 32 ∧ (0 ≤ f ∧ f + pw (p + 1) - 1 ≤ 4294967295) ∧ l.wf ∧ r.wf ∧ f ≤ l.lo ∧ l.hi ≤ f + pw p - 1 ∧ f + pw p ≤ r.lo ∧ r.hi ≤ f + pw (p + 1) - 1 from ⟨hp, ⟨hf0, hfM⟩, wl, wr, a1, a2, a3, a4⟩)
    clear h2 hI2 hS2 hX2 hp hq hf0 hfM wl wr a1 a2 a3 a4
    unfold innerV at HLF
    go_wp2_with fail
    refine HLF.out.mono ?_
    rintro e w3 ⟨sl, rfl, hsl, hSL, hX3⟩
    have h3 := H2.out.plain hX3
    have hof : SideOf w3 sl S l first := ⟨_, _, _, by rw [HVL.out]; exact hSL, HWW.out.2.2.2.2.1, HWW.out.2.2.2.2.2.1, Or.inl rfl⟩
    have hlc : L.length + l.cnt ≤ 1000000 := by have := HL.out; simp only [Tr.cnt] at this; omega
    have q1 : tb ≠ sl := by have := H2.out.tr.lt.1; omega
    have q2 : db ≠ sl := by have := H2.out.df.lt; omega
    have q3 : sl ∉ A.all := fun hm => by have := H2.out.tr.lt.2 _ hm; omega
    have q4 : sl ∉ gotB eb wb xb ob nb v := fun hm => by have := H2.out.got.lt _ hm; omega
    have HA1 := Lib.hid (IHL.out _ _ _ _ h3 HR.out.2.2.2.2.2.1 HWW.out.2.2.1 hof hlc q1 q2 q3 q4)
    have H3 := Lib.hid h3
    have HQ := Lib.hid (show tb ≠ sl ∧ db ≠ sl ∧ sl ∉ A.all ∧ w2.heap.size ≤ sl from ⟨q1, q2, q3, hsl⟩)
    have HI3 := Lib.hid (HI2.out.only hX3 (by simp))
    have HS3 := Lib.hid (HS2.out.only hX3 (by simp))
    have HX3 := Lib.hid (HX2.out.trans (hX3.mono (by simp)))
    have HSZ3 := Lib.hid hX3.size
    clear hsl hSL hX3 h3 hof hlc q1 q2 q3 q4 d0 d1 d2 d3 d4 HLF H2 HI2 HS2 HX2
    go_wp2_with fail
    refine HA1.out.mono ?_
    rintro e w4 hm4
    obtain ⟨v4, h4, hX4, hv4⟩ := H3.out.more hm4 (by simp; exact HQ.out.1) (by simp; exact HQ.out.2.1) (fun k hk hm => by simp at hm; exact HQ.out.2.2.1 (hm ▸ hk))
    have he4 := hm4.1
    subst he4
    have hn1 : ib ∉ [sl] ++ gotB eb wb xb ob nb v := by
      intro hm
      rcases List.mem_append.1 hm with hm | hm
      · have := HQ.out.2.2.2; simp at hm; omega
      · have := HIB.out _ hm; omega
    have hn2 : sb ∉ [sl] ++ gotB eb wb xb ob nb v := by
      intro hm
      rcases List.mem_append.1 hm with hm | hm
      · have := HQ.out.2.2.2; simp at hm; omega
      · exact HS12.out.2.2.2 hm
    have hI4 := HI3.out.only hX4 hn1
    have hS4 := HS3.out.only hX4 hn2
    have d0 := hI4.cell 0 rfl
    have d1 := hI4.cell 1 rfl
    have d2 := hI4.cell 2 rfl
    have d3 := hI4.cell 3 rfl
    have d4 := hI4.cell 4 rfl
    have HRG := Lib.hid (side_right (hl := vl) (hr := vr) (c := vc) (show SideAt w4 sb vh lo hi (.pointer (some ⟨b, 0, none⟩)) first from hS4) HWW.out.1 HWW.out.2.1)
    have H4 := Lib.hid h4
    have HX4 := Lib.hid hX4
    have HV4 := Lib.hid hv4
    clear hm4 h4 hX4 hv4 hn1 hn2 hI4 hS4 HA1
    unfold innerV at HRG
    go_wp2_with fail
    refine HRG.out.mono ?_
    rintro e w5 ⟨sr, rfl, hsr, hSR, hX5⟩
    have h5 := H4.out.plain hX5
    have hof : SideOf w5 sr S r first := ⟨_, _, _, by rw [HVR.out]; exact hSR, HWW.out.2.2.2.2.2.2.1, HWW.out.2.2.2.2.2.2.2, Or.inl rfl⟩
    have hlc : (L ++ allC first l).length + r.cnt ≤ 1000000 := by have := HL.out; simp only [Tr.cnt] at this; rw [List.length_append, allC_length]; omega
    have HA2 := Lib.hid (IHR.out _ _ _ _ h5 HR.out.2.2.2.2.2.2 HWW.out.2.2.2.1 hof hlc (by have := H4.out.tr.lt.1; omega) (by have := H4.out.df.lt; omega) (fun hm => by have := H4.out.tr.lt.2 _ hm; omega) (fun hm => by have := H4.out.got.lt _ hm; omega))
    have HX5 := Lib.hid hX5
    have HSR5 := Lib.hid hsr
    clear hsr hSR hX5 h5 hof hlc d0 d1 d2 d3 d4 HRG
    go_wp2_with fail
    refine HA2.out.mono ?_
    rintro e w6 ⟨rfl, v6, hG6, hX6, hv6⟩
    have HG6 := Lib.hid hG6
    have HX6 := Lib.hid hX6
    have HV6 := Lib.hid hv6
    clear hG6 hX6 hv6 HA2
    go_wp2_with fail
    go_ret
    have hs3 := HX3.out.size
    have hs4 := HX4.out.size
    have hs5 := HX5.out.size
    refine ⟨rfl, v6, ?_, ?_, ?_⟩
    · rw [allC_node, ← List.append_assoc]; exact HG6.out
    · have o4 : Only ([sb] ++ gotB eb wb xb ob nb v) w w4 := (HX3.out.mono (by intro x hx; simp at hx; subst hx; simp)).past HX4.out (by
        intro x hx
        rcases List.mem_append.1 hx with hx | hx
        · have h1 := HQ.out.2.2.2; have h2 := HSZ3.out; have h0 := HIB.out eb (by simp [gotB])
          right; simp at hx; subst hx
          have := HSZW.out
          omega
        · exact Or.inl (List.mem_append_right _ hx))
      refine (o4.trans (HX5.out.mono (by simp))).past HX6.out ?_
      intro x hx
      rcases List.mem_append.1 hx with hx | hx
      · right; simp at hx; subst hx
        have := HSR5.out
        omega
      · by_cases hxo : x < w.heap.size
        · left
          refine List.mem_append_right _ ?_
          by_cases hxn : x ∈ gotB eb wb xb ob nb v
          · exact hxn
          · exact absurd hx (gotB_old (w := w3) (by omega) hxn HV4.out)
        · right; omega
    · intro x hx
      rcases HV6.out x hx with h | h
      · rcases HV4.out x h with h | h
        · exact Or.inl h
        · exact Or.inr (by omega)
      · exact Or.inr (by omega)

end Go.Proofs.Ytacegkjobfeiiaa

namespace Go.Proofs.Ytacegkjobfeiiaa
open Go.RowKit

def DiffPost (tb : Nat) (a b : Int) (w : World) (e : Ending) (w' : World) : Prop :=
  ∃ p0 p1 p2 p3, e = .returned (.func (.func 32) #[] #[.pointer (some ⟨p0, 0, none⟩), .pointer (some ⟨p1, 0, none⟩), .pointer (some ⟨p2, 0, none⟩), .pointer (some ⟨p3, 0, none⟩)]) ∧
    w'.cell? ⟨p0, 0, none⟩ = some (.pointer (some ⟨tb, 0, none⟩)) ∧ w'.cell? ⟨p1, 0, none⟩ = some (.pointer none) ∧ w'.cell? ⟨p2, 0, none⟩ = some (.int .i64 a) ∧ w'.cell? ⟨p3, 0, none⟩ = some (.int .i64 b) ∧ w.heap.size ≤ p0 ∧ w.heap.size ≤ p1 ∧ w.heap.size ≤ p2 ∧ w.heap.size ≤ p3 ∧ Only [] w w'

set_option maxRecDepth 100000 in
set_option maxHeartbeats 4000000 in
theorem trie_diff {tb : Nat} {a b : Int} {w : World} :
    Calls Try.prog 12 #[.pointer (some ⟨tb, 0, none⟩), .pointer none, .int .i64 a, .int .i64 b] w (DiffPost tb a b w) := by
  have hmf : ∀ (fn : Fn) (first cap : Array Value) (w : World), (Instr.makeFunc fn first cap).run Try.prog w = .ok (.func fn first cap) w := fun _ _ _ _ => rfl
  go_enter Try.func12, Try.ntmps12
  go_wp2_with fail
  go_ret
  refine ⟨w.heap.size, w.heap.size + 1, w.heap.size + 2, w.heap.size + 3, rfl, ?_, ?_, ?_, ?_, by omega, by omega, by omega, by omega, (((Only.alloc [] _ _).trans (Only.alloc [] _ _)).trans (Only.alloc [] _ _)).trans (Only.alloc [] _ _)⟩
  · exact ((((Blk.new w #[.pointer (some ⟨tb, 0, none⟩)] _).alloc _).alloc _).alloc _).cell 0 rfl
  · have := ((Blk.new (w.alloc (.cells #[.pointer (some ⟨tb, 0, none⟩)] 29)) #[.pointer none] 94).alloc (.cells #[.int .i64 a] 3)).alloc (.cells #[.int .i64 b] 3)
    simpa using this.cell 0 rfl
  · have := (Blk.new ((w.alloc (.cells #[.pointer (some ⟨tb, 0, none⟩)] 29)).alloc (.cells #[.pointer none] 94)) #[.int .i64 a] 3).alloc (.cells #[.int .i64 b] 3)
    simpa using this.cell 0 rfl
  · have := Blk.new (((w.alloc (.cells #[.pointer (some ⟨tb, 0, none⟩)] 29)).alloc (.cells #[.pointer none] 94)).alloc (.cells #[.int .i64 a] 3)) #[.int .i64 b] 3
    simpa using this.cell 0 rfl

end Go.Proofs.Ytacegkjobfeiiaa

namespace Go.Proofs.Ytacegkjobfeiiaa

theorem hnd_slot {n : Nat} {S : Nat → Sl} {x y : Tr} (hn : n ≤ 4096) (hx : Rep n S x) (hy : Rep n S y) (h : hnd S x = hnd S y) : x.slot = y.slot := by
  obtain ⟨a1, a2, _, a4, a5⟩ := hx.alive
  obtain ⟨b1, b2, _, b4, b5⟩ := hy.alive
  have h1 : idxOf (hnd S x) = x.slot := idxOf_wd (by omega) (by omega) a4 (by omega)
  have h2 : idxOf (hnd S y) = y.slot := idxOf_wd (by omega) (by omega) b4 (by omega)
  rw [h] at h1
  omega

theorem rep_inj {n : Nat} {S : Nat → Sl} (hn : n ≤ 4096) (x : Tr) : ∀ (y : Tr), Rep n S x → Rep n S y → x.wf → y.wf → hnd S x = hnd S y → x = y := by
  induction x with
  | leaf i k v =>
    intro y hx hy wx wy h
    have hs := hnd_slot hn hx hy h
    cases y with
    | leaf j k2 v2 =>
      have hs : i = j := hs
      subst hs
      rw [hx.2.2.1.symm.trans hy.2.2.1, hx.2.2.2.1.symm.trans hy.2.2.2.1]
    | node j p f l r =>
      have hs : i = j := hs
      subst hs
      have a1 := hx.2.1
      have a2 := hy.2.1
      have f0 := wy.2.2.1
      omega
  | node i p f l r ihl ihr =>
    intro y hx hy wx wy h
    have hs := hnd_slot hn hx hy h
    cases y with
    | leaf j k v =>
      have hs : i = j := hs
      subst hs
      have a1 := hx.2.1
      have a2 := hy.2.1
      have f0 := wx.2.2.1
      omega
    | node j p2 f2 l2 r2 =>
      have hs : i = j := hs
      subst hs
      have a1 := hx.2.1
      have a2 := hy.2.1
      have p32 := wx.1
      have q32 := wy.1
      have hp : p = p2 := by omega
      subst hp
      have hf : f = f2 := by omega
      subst hf
      rw [ihl l2 hx.2.2.2.2.2.1 hy.2.2.2.2.2.1 wx.2.2.2.2.1 wy.2.2.2.2.1 (hx.2.2.1.symm.trans hy.2.2.1), ihr r2 hx.2.2.2.2.2.2 hy.2.2.2.2.2.2 wx.2.2.2.2.2.1 wy.2.2.2.2.2.1 (hx.2.2.2.1.symm.trans hy.2.2.2.1)]

end Go.Proofs.Ytacegkjobfeiiaa

