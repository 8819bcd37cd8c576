/- The statement's changed, as a call: definitions; Put. Conditions: the map stands in memory as TrAt, RepO and RowP say, the free places as Fre says. -/
import Derived.Test.YtacegkjobfeiiaaCTrieEe
set_option linter.unusedVariables false
set_option linter.unusedSimpArgs false
set_option linter.unusedSectionVars false
set_option linter.unnecessarySimpa false
namespace Go.Proofs.Ytacegkjobfeiiaa
open Go.RowKit

/-- A change has been made: the new map, its row, what is gone and made. -/
def ChgOk (A : PA) (n : Nat) (S0 : Nat → Sl) (fs0 : List Nat) (t0 fa : Int) (tb : Nat) (ox : Option Tr) (old : Int) (had : Bool) (P : List KV) (w : World) (e : Ending) (w' : World) : Prop :=
  ∃ (oy : Option Tr) (S' : Nat → Sl) (t' : Int) (m : Nat) (gs rest : List Nat) (gv mv : Value) (vb g : Nat) (ao : Option Addr) (cap : Nat), e = .returned (.tuple #[.pointer (some ⟨vb, 0, none⟩), .agg #[.int .i64 (rootOf S' oy), .int .i64 old, .bool had, gv, mv], .bool true]) ∧
    RepO n S' oy ∧ prs oy = P ∧ Mg S0 S' fs0 (fs0.drop m) t0 t' m ∧ TrAt w' tb A n S' t' (fs0.drop m) fa ∧
    w'.ownsRow w.heap.size 3 1 gv gs.length ((hnds S0 gs).map (Value.int .i64)) ∧ w'.ownsRow w.heap.size 3 1 mv m ((mds S0 (fs0.take m)).map (Value.int .i64)) ∧
    (slotsO ox).Perm (gs ++ rest) ∧ (slotsO oy).Perm (fs0.take m ++ rest) ∧ m ≤ gs.length + 2 ∧ m ≤ 34 ∧
    Blk w' vb #[.int .i64 (rootOf S' oy), .slice ao P.length cap] 33 ∧ w.heap.size ≤ vb ∧ RowP w' g ao cap P ∧ w.heap.size ≤ g ∧ (P ≠ [] → g < w'.heap.size) ∧ Only A.all w w'

def editZ : Value := .agg #[.int .i64 0, .int .i64 0, .bool false, .slice none 0 0, .slice none 0 0]

/-- A place lacked. -/
def ChgNo (A : PA) (n : Nat) (S0 : Nat → Sl) (fs0 : List Nat) (t0 fa : Int) (tb : Nat) (w : World) (e : Ending) (w' : World) : Prop :=
  e = .returned (.tuple #[.pointer none, editZ, .bool true]) ∧ ∃ S t, TrAt w' tb A n S t fs0 fa ∧ Undone S0 S fs0 ∧ t = t0 + 2 * fs0.length ∧ Only A.all w w'

theorem own_weaken {w : World} {base base' : Nat} {e : TypeId} {size : Nat} {v : Value} {n : Nat} {xs : List Value} (h : w.ownsRow base e size v n xs) (hb : base' ≤ base) : w.ownsRow base' e size v n xs := by
  refine ⟨h.1, h.2.imp id ?_⟩
  rintro ⟨g, cap, cur, h1, h2, h3⟩
  exact ⟨g, cap, cur, h1, Nat.le_trans hb h2, h3⟩

theorem ver_zero (w : World) : (zeroValue 33).run Try.prog w = .ok (.agg #[.int .i64 0, .slice none 0 0]) w := by kernel_rfl

/-- Nothing was done. -/
def ChgErr (w : World) (e : Ending) (w' : World) : Prop := e = .returned (.tuple #[.pointer none, editZ, .bool true]) ∧ Only [] w w'

set_option maxRecDepth 100000 in
set_option maxHeartbeats 4000000 in
theorem changed_put {A : PA} {n : Nat} {S0 : Nat → Sl} {fs0 : List Nat} {t0 fa c0 : Int} {tb g : Nat} {ao : Option Addr} {cap : Nat} {ox : Option Tr} {of k v : Int} {w : World} (T : TrAt w tb A n S0 t0 fs0 fa) (F : Fre n S0 fs0 c0) (hc : c0 < 999998) (ht : t0 + 2 * fs0.length ≤ 1000000) (R : RepO n S0 ox) (hrow : RowP w g ao cap (prs ox)) (hgA : g ∉ A.all) (hl : (prs ox).length ≤ 1000) (hk : InK k) :
    Calls Try.prog 10 #[.pointer (some ⟨A.p, 0, none⟩), .pointer (some ⟨tb, 0, none⟩), .agg #[.int .i64 (rootOf S0 ox), .slice ao (prs ox).length cap], .agg #[.int .i64 of, .int .i64 k, .int .i64 v, .bool false]] w (fun e w' => ChgOk A n S0 fs0 t0 fa tb ox (valL (prs ox) k).1 (valL (prs ox) k).2 (withL (prs ox) k v) w e w' ∨ ChgNo A n S0 fs0 t0 fa tb w e w') := by
  have hez := edit_zero
  have HT := Lib.hid T
  have HIN := Lib.hid (show Fre n S0 fs0 c0 ∧ c0 < 999998 ∧ t0 + 2 * fs0.length ≤ 1000000 ∧ RepO n S0 ox ∧ RowP w g ao cap (prs ox) ∧ g ∉ A.all ∧ (prs ox).length ≤ 1000 from ⟨F, hc, ht, R, hrow, hgA, hl⟩)
  have HK := Lib.hid hk
  clear hk
  have HVAL := Lib.hid (fun W (o : Only [] w W) => law_value (k := k) (hrow.only o (by simp)) (show (prs ox).length ≤ 1000000 by omega))
  have HWITH := Lib.hid (fun W (o : Only A.all w W) => law_with (k := k) (u := v) (hrow.only o hgA) (show (prs ox).length ≤ 100000 by omega))
  have HWOUT := Lib.hid (fun W (o : Only A.all w W) => law_without (k := k) (hrow.only o hgA) (show (prs ox).length ≤ 100000 by omega))
  have hlf : fs0.length ≤ 4096 := by
    have h1 := nodup_length n fs0 F.nodup (fun x hx => by have := F.rng x hx; omega)
    have := T.pool.many.2
    omega
  obtain ⟨rt, hrt⟩ : ∃ u, rootOf S0 ox = u := ⟨_, rfl⟩
  obtain ⟨ln, hln⟩ : ∃ u, (prs ox).length = u := ⟨_, rfl⟩
  obtain ⟨old, hold⟩ : ∃ u, (valL (prs ox) k).1 = u := ⟨_, rfl⟩
  obtain ⟨hd, hhd⟩ : ∃ u, (valL (prs ox) k).2 = u := ⟨_, rfl⟩
  obtain ⟨lf, hlfe⟩ : ∃ u, fs0.length = u := ⟨_, rfl⟩
  rw [hold, hhd, hln] at HVAL
  rw [hln] at HWITH HWOUT
  rw [hrt, hln]
  rw [hlfe] at hlf
  have HNM := Lib.hid (show rootOf S0 ox = rt ∧ (prs ox).length = ln ∧ (valL (prs ox) k).1 = old ∧ (valL (prs ox) k).2 = hd ∧ fs0.length = lf from ⟨hrt, hln, hold, hhd, hlfe⟩)
  clear T F hc ht R hrow hgA hl hrt hln hold hhd hlfe
  go_enter Try.func10, Try.ntmps10
  go_upto_region 1 with fail
  refine wp_name (fun w1 => Blk w1 w.heap.size #[.int .i64 rt, .slice ao ln cap] 33 ∧ Blk w1 (w.heap.size + 1) #[.int .i64 of, .int .i64 k, .int .i64 v, .bool false] 42 ∧ Blk w1 (w.heap.size + 1 + 1) #[.int .i64 0, .int .i64 0, .bool false, .slice none 0 0, .slice none 0 0] 38 ∧ Only [] w w1) ⟨((Blk.new _ _ _).alloc _).alloc _, ?_, ?_, ((Only.alloc [] _ _).trans (Only.alloc [] _ _)).trans (Only.alloc [] _ _)⟩ ?_
  · have := (Blk.new (w.alloc (.cells #[.int .i64 rt, .slice ao ln cap] 33)) #[.int .i64 of, .int .i64 k, .int .i64 v, .bool false] 42).alloc (.cells #[.int .i64 0, .int .i64 0, .bool false, .slice none 0 0, .slice none 0 0] 38)
    simpa using this
  · have := Blk.new ((w.alloc (.cells #[.int .i64 rt, .slice ao ln cap] 33)).alloc (.cells #[.int .i64 of, .int .i64 k, .int .i64 v, .bool false] 42)) #[.int .i64 0, .int .i64 0, .bool false, .slice none 0 0, .slice none 0 0] 38
    simpa using this
  obtain ⟨b6, hb6⟩ : ∃ b, w.heap.size = b := ⟨_, rfl⟩
  obtain ⟨b7, hb7⟩ : ∃ b, w.heap.size + 1 = b := ⟨_, rfl⟩
  obtain ⟨b9, hb9⟩ : ∃ b, w.heap.size + 1 + 1 = b := ⟨_, rfl⟩
  have HBB := Lib.hid (show w.heap.size = b6 ∧ b7 = b6 + 1 ∧ b9 = b6 + 2 from ⟨hb6, by omega, by omega⟩)
  rw [hb9, hb7, hb6]
  clear hb6 hb7 hb9
  rintro w1 ⟨h6, h7, h9, hX1⟩
  have H6 := Lib.hid h6
  have H7 := Lib.hid h7
  have H9 := Lib.hid h9
  have HX1 := Lib.hid hX1
  have c61 := h6.cell 1 rfl
  have c71 := h7.cell 1 rfl
  clear h6 h7 h9 hX1
  go_wp2_with fail
  refine (HVAL.out _ HX1.out).mono ?_
  rintro e w2 ⟨rfl, hX2⟩
  have H6 := Lib.hid (H6.out.only hX2 (by simp))
  have H7 := Lib.hid (H7.out.only hX2 (by simp))
  have H9 := Lib.hid (H9.out.only hX2 (by simp))
  have HX2 := Lib.hid (HX1.out.trans hX2)
  clear hX2 c61 c71 HX1 HVAL
  go_wp2_with fail
  refine (pool_free A n S0 t0 fs0 fa _ (HT.out.plain HX2.out).pool).mono ?_
  rintro e w3 ⟨v3, rfl, hown3, hX3⟩
  obtain ⟨ad3, cap3, rfl⟩ := own_slice_any hown3
  rw [HNM.out.2.2.2.2]
  have H6 := Lib.hid (H6.out.only hX3 (by simp))
  have H7 := Lib.hid (H7.out.only hX3 (by simp))
  have H9 := Lib.hid (H9.out.only hX3 (by simp))
  have HX3 := Lib.hid (HX2.out.trans hX3)
  clear hX3 hown3 HX2
  go_upto_region 5 with fail
  refine wp_name (fun w4 => Blk w4 b6 #[.int .i64 rt, .slice ao ln cap] 33 ∧ Blk w4 b7 #[.int .i64 of, .int .i64 k, .int .i64 v, .bool false] 42 ∧ Blk w4 b9 #[.int .i64 0, .int .i64 0, .bool false, .slice none 0 0, .slice none 0 0] 38 ∧ Blk w4 w3.heap.size #[.int .i64 0, .int .i64 0, .bool false, .slice none 0 0, .slice none 0 0] 38 ∧ Only [] w w4) ⟨H6.out.alloc _, H7.out.alloc _, H9.out.alloc _, Blk.new _ _ _, HX3.out.trans (Only.alloc _ _ _)⟩ ?_
  have hb14 : b9 < w3.heap.size := H9.out.lt
  obtain ⟨bE, hbE⟩ : ∃ b, w3.heap.size = b := ⟨_, rfl⟩
  rw [hbE] at hb14 ⊢
  have HBE := Lib.hid hb14
  clear hbE hb14 H6 H7 H9 HX3 hez
  rintro w4 ⟨h6, h7, h9, hE, hX4⟩
  have H6 := Lib.hid h6
  have H7 := Lib.hid h7
  have H9 := Lib.hid h9
  have HE := Lib.hid hE
  have HX4 := Lib.hid hX4
  have c60 := h6.cell 0 rfl
  have c71 := h7.cell 1 rfl
  have c72 := h7.cell 2 rfl
  have c73 := h7.cell 3 rfl
  have HCALL := Lib.hid (put_any (v := v) (HT.out.plain hX4) HIN.out.1 HIN.out.2.1 HIN.out.2.2.1 HIN.out.2.2.2.1 HK.out)
  rw [HNM.out.1, HNM.out.2.2.1, HNM.out.2.2.2.1] at HCALL
  clear h6 h7 h9 hE hX4
  go_wp2_with fail
  refine HCALL.out.mono ?_
  rintro e w5 (hOk | hNo)
  · obtain ⟨oy, S', t', m, gs, rest, gv, mv, rfl, hOR, hOP, hMg, hTr, hgv, hmv, hp1, hp2, hm1, hm2, hX5⟩ := hOk
    obtain ⟨gad, gcap, rfl⟩ := own_slice_any hgv
    obtain ⟨mad, mcap, rfl⟩ := own_slice_any hmv
    have HOK := Lib.hid (show RepO n S' oy ∧ prs oy = withL (prs ox) k v ∧ Mg S0 S' fs0 (fs0.drop m) t0 t' m ∧ TrAt w5 tb A n S' t' (fs0.drop m) fa ∧ w5.ownsRow w4.heap.size 3 1 (.slice gad gs.length gcap) gs.length ((hnds S0 gs).map (Value.int .i64)) ∧ w5.ownsRow w4.heap.size 3 1 (.slice mad m mcap) m ((mds S0 (fs0.take m)).map (Value.int .i64)) ∧ (slotsO ox).Perm (gs ++ rest) ∧ (slotsO oy).Perm (fs0.take m ++ rest) ∧ m ≤ gs.length + 2 ∧ m ≤ 34 from ⟨hOR, hOP, hMg, hTr, hgv, hmv, hp1, hp2, hm1, hm2⟩)
    obtain ⟨lr, hlr⟩ : ∃ u, (fs0.drop m).length = u := ⟨_, rfl⟩
    have hmle : m ≤ fs0.length := hMg.le
    have HLR := Lib.hid hlr
    have hlrm : lr + m = lf := by have := HNM.out.2.2.2.2; rw [List.length_drop] at hlr; omega
    have hml : lf ≤ 4096 := hlf
    obtain ⟨rt2, hrt2⟩ : ∃ u, rootOf S' oy = u := ⟨_, rfl⟩
    rw [hrt2]
    have HRT2 := Lib.hid hrt2
    obtain ⟨gl, hgl⟩ : ∃ u, gs.length = u := ⟨_, rfl⟩
    rw [hgl]
    rw [hgl] at HOK
    have HGL := Lib.hid hgl
    have hsz5 := hX5.size
    have HS45 : Hid (w.heap.size ≤ w4.heap.size ∧ bE < w4.heap.size) := Lib.hid ⟨HX4.out.size, HE.out.lt⟩
    clear hOR hOP hMg hTr hgv hmv hp1 hp2 hm1 hm2 hlr hmle hrt2 hgl hsz5
    have hlt4 : ∀ b, b = b6 ∨ b = b7 ∨ b = b9 ∨ b = bE → b ∉ A.all := by
      intro b hb hm
      have h1 := HT.out.lt.2 b hm
      have h2 := HBB.out
      have h3 := HBE.out
      rcases hb with rfl | rfl | rfl | rfl <;> omega
    have H6 := Lib.hid (H6.out.only hX5 (hlt4 _ (Or.inl rfl)))
    have H7 := Lib.hid (H7.out.only hX5 (hlt4 _ (Or.inr (Or.inl rfl))))
    have H9 := Lib.hid (H9.out.only hX5 (hlt4 _ (Or.inr (Or.inr (Or.inl rfl)))))
    have hE := HE.out.only hX5 (hlt4 _ (Or.inr (Or.inr (Or.inr rfl))))
    have HE := Lib.hid hE
    have HX5 := Lib.hid ((HX4.out.mono (by simp)).trans hX5)
    have q0 := hE.free 0
    have q1 := hE.free 1
    have q2 := hE.free 2
    have q3 := hE.free 3
    have q4 := hE.free 4
    have z0 := hE.cell 0 rfl
    have z1 := hE.cell 1 rfl
    have z2 := hE.cell 2 rfl
    have z3 := hE.cell 3 rfl
    have z4 := hE.cell 4 rfl
    clear hX5 hE hlt4 HX4 HCALL c60 c71 c72 c73
    go_upto_region 8 with fail
    refine wp_name (fun w6 => Blk w6 bE #[.int .i64 rt2, .int .i64 old, .bool hd, .slice gad gl gcap, .slice mad m mcap] 38 ∧ Only [bE] w5 w6) (HE.out.fill5 _ _ _ _ _) ?_
    clear q0 q1 q2 q3 q4 z0 z1 z2 z3 z4 HE
    rintro w6 ⟨hE6, hX6⟩
    have HE6 := Lib.hid hE6
    have H66 := Lib.hid (H6.out.only hX6 (by have := HBB.out; have := HBE.out; simp; omega))
    have H76 := Lib.hid (H7.out.only hX6 (by have := HBB.out; have := HBE.out; simp; omega))
    have H96 := Lib.hid (H9.out.only hX6 (by have := HBB.out; have := HBE.out; simp; omega))
    have HT6 : Hid (TrAt w6 tb A n S' t' (fs0.drop m) fa) := by
      have h1 := HT.out.lt
      have h2 := HBB.out
      have h3 := HBE.out
      exact Lib.hid (HOK.out.2.2.2.1.other hX6 (by simp; omega) (fun k hk hm => by have := h1.2 k hk; simp at hm; omega))
    have HX6 : Hid (Only A.all w w6) := Lib.hid (HX5.out.past hX6 (fun i hi => Or.inr (by simp at hi; have := HBB.out; have := HBE.out; omega)))
    have HX56 := Lib.hid hX6
    clear hE6 hX6 H6 H7 H9 HX5
    go_upto_region 14 with (go_at_call 8; refine (num_12 _ _).mono ?_; rintro e w' ⟨rfl, rfl⟩)
    have hdr := Only.drew [] w6
    have HKP : Hid (∀ W, Only [] w6 W → W.cell? ⟨b7, 3, none⟩ = some (.bool false) ∧ W.cell? ⟨bE, 2, none⟩ = some (.bool hd) ∧ W.cell? ⟨bE, 1, none⟩ = some (.int .i64 old) ∧ W.cell? ⟨bE, 4, none⟩ = some (.slice mad m mcap)) := Lib.hid (fun W o => ⟨(H76.out.only o (by simp)).cell 3 rfl, (HE6.out.only o (by simp)).cell 2 rfl, (HE6.out.only o (by simp)).cell 1 rfl, (HE6.out.only o (by simp)).cell 4 rfl⟩)
    obtain ⟨k73, kE2, kE1, kE4⟩ := HKP.out _ hdr
    have b1 : (hd == hd) = true := by simp
    have b2 : (old == old) = true := by simp
    have b3 : ((lr : Int) == lr) = true := by simp
    have b4 : IntKind.i64.wrap ((lf : Int) - m) = lr := by
      have : (lf : Int) - m = lr := by omega
      rw [this]
      exact IntWalk.i64_in _ ⟨by omega, by omega⟩
    have HFR := Lib.hid (fun W (o : Only [] w6 W) => pool_free A n S' t' (fs0.drop m) fa W (HT6.out.plain o).pool)
    rw [HLR.out] at HFR
    clear hdr
    refine wp_region_held_drew (S := (fun W => W.cell? ⟨b7, 3, none⟩ = some (.bool false) ∧ W.cell? ⟨bE, 2, none⟩ = some (.bool hd) ∧ W.cell? ⟨bE, 1, none⟩ = some (.int .i64 old) ∧ W.cell? ⟨bE, 4, none⟩ = some (.slice mad m mcap))) (by kernel_rfl) ⟨k73, kE2, kE1, kE4⟩ (fun hHeld => ?_)
    refine wpAnyH_take (i := 0) (oi := { dst := some 128, op := Op.fieldAddr 42 (Operand.tmp 7) 3, type := 0, pos := "whatfor.go:111", after := #[], guard := none }) (v := ?_) rfl (by kernel_rfl) (by kernel_rfl) (by kernel_rfl) (fun _ _ _ h => h) (Or.inl ⟨by rfl, ?_⟩) (by assumption) ?_
    rotate_left 1
    · intro w hSw
      obtain ⟨s1, s2, s3, s4⟩ := hSw
      go_simp
      try with_reducible rfl
    try simp only [Act.put, List.setIfInBounds_toArray, List.set_cons_zero, List.set_cons_succ]
    refine wpAnyH_take (i := 1) (oi := { dst := some 129, op := Op.load 4 (Operand.tmp 128), type := 4, pos := "whatfor.go:111", after := #[{ on := 0, ground := Ground.data }], guard := none }) (v := ?_) rfl (by kernel_rfl) (by kernel_rfl) (by kernel_rfl) (fun _ _ _ h => h) (Or.inl ⟨by rfl, ?_⟩) (by assumption) ?_
    rotate_left 1
    · intro w hSw
      obtain ⟨s1, s2, s3, s4⟩ := hSw
      go_simp
      try with_reducible rfl
    try simp only [Act.put, List.setIfInBounds_toArray, List.set_cons_zero, List.set_cons_succ]
    refine wpAnyH_take (i := 2) (oi := { dst := some 130, op := Op.move (Operand.tmp 129), type := 4, pos := "whatfor.go:111", after := #[{ on := 1, ground := Ground.data }], guard := none }) (v := ?_) rfl (by kernel_rfl) (by kernel_rfl) (by kernel_rfl) (fun _ _ _ h => h) (Or.inl ⟨by rfl, ?_⟩) (by assumption) ?_
    rotate_left 1
    · intro w hSw
      obtain ⟨s1, s2, s3, s4⟩ := hSw
      go_simp
      try with_reducible rfl
    try simp only [Act.put, List.setIfInBounds_toArray, List.set_cons_zero, List.set_cons_succ]
    refine wpAnyH_take (i := 3) (oi := { dst := some 131, op := Op.move (Operand.tmp 12), type := 4, pos := "whatfor.go:111", after := #[{ on := 2, ground := Ground.guard }], guard := some (2, true) }) (v := _) rfl (by kernel_rfl) (by kernel_rfl) (by kernel_rfl) (fun _ _ _ h => h) (Or.inr ⟨by rfl, rfl⟩) (by assumption) ?_
    try simp only [Act.put, List.setIfInBounds_toArray, List.set_cons_zero, List.set_cons_succ]
    refine wpAnyH_take (i := 4) (oi := { dst := some 132, op := Op.unOp UnOp.not 4 (Operand.tmp 131), type := 4, pos := "whatfor.go:111", after := #[{ on := 3, ground := Ground.data }, { on := 2, ground := Ground.guard }], guard := some (2, true) }) (v := _) rfl (by kernel_rfl) (by kernel_rfl) (by kernel_rfl) (fun _ _ _ h => h) (Or.inr ⟨by rfl, rfl⟩) (by assumption) ?_
    try simp only [Act.put, List.setIfInBounds_toArray, List.set_cons_zero, List.set_cons_succ]
    refine wpAnyH_take (i := 5) (oi := { dst := some 133, op := Op.pick (Operand.tmp 130) (Operand.tmp 132) (Operand.const (Value.bool false)), type := 4, pos := "whatfor.go:111", after := #[{ on := 2, ground := Ground.data }, { on := 4, ground := Ground.data }], guard := none }) (v := ?_) rfl (by kernel_rfl) (by kernel_rfl) (by kernel_rfl) (fun _ _ _ h => h) (Or.inl ⟨by rfl, ?_⟩) (by assumption) ?_
    rotate_left 1
    · intro w hSw
      obtain ⟨s1, s2, s3, s4⟩ := hSw
      go_simp
      try with_reducible rfl
    try simp only [Act.put, List.setIfInBounds_toArray, List.set_cons_zero, List.set_cons_succ]
    refine wpAnyH_take (i := 6) (oi := { dst := some 134, op := Op.move (Operand.tmp 133), type := 4, pos := "whatfor.go:111", after := #[{ on := 5, ground := Ground.data }, { on := 2, ground := Ground.chain }], guard := none }) (v := ?_) rfl (by kernel_rfl) (by kernel_rfl) (by kernel_rfl) (fun _ _ _ h => h) (Or.inl ⟨by rfl, ?_⟩) (by assumption) ?_
    rotate_left 1
    · intro w hSw
      obtain ⟨s1, s2, s3, s4⟩ := hSw
      go_simp
      try with_reducible rfl
    try simp only [Act.put, List.setIfInBounds_toArray, List.set_cons_zero, List.set_cons_succ]
    refine wpAnyH_take (i := 7) (oi := { dst := some 135, op := Op.fieldAddr 38 (Operand.tmp 14) 2, type := 0, pos := "whatfor.go:111", after := #[{ on := 6, ground := Ground.guard }], guard := some (6, false) }) (v := ?_) rfl (by kernel_rfl) (by kernel_rfl) (by kernel_rfl) (fun _ _ _ h => h) (Or.inl ⟨by rfl, ?_⟩) (by assumption) ?_
    rotate_left 1
    · intro w hSw
      obtain ⟨s1, s2, s3, s4⟩ := hSw
      go_simp
      try with_reducible rfl
    try simp only [Act.put, List.setIfInBounds_toArray, List.set_cons_zero, List.set_cons_succ]
    refine wpAnyH_take (i := 8) (oi := { dst := some 136, op := Op.load 4 (Operand.tmp 135), type := 4, pos := "whatfor.go:111", after := #[{ on := 7, ground := Ground.data }, { on := 6, ground := Ground.guard }], guard := some (6, false) }) (v := ?_) rfl (by kernel_rfl) (by kernel_rfl) (by kernel_rfl) (fun _ _ _ h => h) (Or.inl ⟨by rfl, ?_⟩) (by assumption) ?_
    rotate_left 1
    · intro w hSw
      obtain ⟨s1, s2, s3, s4⟩ := hSw
      go_simp
      try with_reducible rfl
    try simp only [Act.put, List.setIfInBounds_toArray, List.set_cons_zero, List.set_cons_succ]
    refine wpAnyH_take (i := 9) (oi := { dst := some 137, op := Op.move (Operand.tmp 12), type := 4, pos := "whatfor.go:111", after := #[{ on := 6, ground := Ground.guard }], guard := some (6, false) }) (v := ?_) rfl (by kernel_rfl) (by kernel_rfl) (by kernel_rfl) (fun _ _ _ h => h) (Or.inl ⟨by rfl, ?_⟩) (by assumption) ?_
    rotate_left 1
    · intro w hSw
      obtain ⟨s1, s2, s3, s4⟩ := hSw
      go_simp
      try with_reducible rfl
    try simp only [Act.put, List.setIfInBounds_toArray, List.set_cons_zero, List.set_cons_succ]
    refine wpAnyH_take (i := 10) (oi := { dst := some 138, op := Op.binOp BinOp.neq 4 (Operand.tmp 136) (Operand.tmp 137) 4, type := 4, pos := "whatfor.go:111", after := #[{ on := 8, ground := Ground.data }, { on := 9, ground := Ground.data }, { on := 6, ground := Ground.guard }], guard := some (6, false) }) (v := ?_) rfl (by kernel_rfl) (by kernel_rfl) (by kernel_rfl) (fun _ _ _ h => h) (Or.inl ⟨by rfl, ?_⟩) (by assumption) ?_
    rotate_left 1
    · intro w hSw
      obtain ⟨s1, s2, s3, s4⟩ := hSw
      go_simp
      try with_reducible rfl
    try simp only [Act.put, List.setIfInBounds_toArray, List.set_cons_zero, List.set_cons_succ]
    refine wpAnyH_take (i := 11) (oi := { dst := some 139, op := Op.pick (Operand.tmp 134) (Operand.const (Value.bool true)) (Operand.tmp 138), type := 4, pos := "whatfor.go:111", after := #[{ on := 6, ground := Ground.data }, { on := 10, ground := Ground.data }], guard := none }) (v := ?_) rfl (by kernel_rfl) (by kernel_rfl) (by kernel_rfl) (fun _ _ _ h => h) (Or.inl ⟨by rfl, ?_⟩) (by assumption) ?_
    rotate_left 1
    · intro w hSw
      obtain ⟨s1, s2, s3, s4⟩ := hSw
      go_simp
      try with_reducible rfl
    try simp only [Act.put, List.setIfInBounds_toArray, List.set_cons_zero, List.set_cons_succ]
    refine wpAnyH_take (i := 12) (oi := { dst := some 140, op := Op.move (Operand.tmp 139), type := 4, pos := "whatfor.go:111", after := #[{ on := 11, ground := Ground.data }, { on := 6, ground := Ground.chain }], guard := none }) (v := ?_) rfl (by kernel_rfl) (by kernel_rfl) (by kernel_rfl) (fun _ _ _ h => h) (Or.inl ⟨by rfl, ?_⟩) (by assumption) ?_
    rotate_left 1
    · intro w hSw
      obtain ⟨s1, s2, s3, s4⟩ := hSw
      go_simp
      try with_reducible rfl
    try simp only [Act.put, List.setIfInBounds_toArray, List.set_cons_zero, List.set_cons_succ]
    refine wpAnyH_take (i := 13) (oi := { dst := some 141, op := Op.fieldAddr 38 (Operand.tmp 14) 1, type := 0, pos := "whatfor.go:111", after := #[{ on := 12, ground := Ground.guard }], guard := some (12, false) }) (v := ?_) rfl (by kernel_rfl) (by kernel_rfl) (by kernel_rfl) (fun _ _ _ h => h) (Or.inl ⟨by rfl, ?_⟩) (by assumption) ?_
    rotate_left 1
    · intro w hSw
      obtain ⟨s1, s2, s3, s4⟩ := hSw
      go_simp
      try with_reducible rfl
    try simp only [Act.put, List.setIfInBounds_toArray, List.set_cons_zero, List.set_cons_succ]
    refine wpAnyH_take (i := 14) (oi := { dst := some 142, op := Op.load 3 (Operand.tmp 141), type := 3, pos := "whatfor.go:111", after := #[{ on := 13, ground := Ground.data }, { on := 12, ground := Ground.guard }], guard := some (12, false) }) (v := ?_) rfl (by kernel_rfl) (by kernel_rfl) (by kernel_rfl) (fun _ _ _ h => h) (Or.inl ⟨by rfl, ?_⟩) (by assumption) ?_
    rotate_left 1
    · intro w hSw
      obtain ⟨s1, s2, s3, s4⟩ := hSw
      go_simp
      try with_reducible rfl
    try simp only [Act.put, List.setIfInBounds_toArray, List.set_cons_zero, List.set_cons_succ]
    refine wpAnyH_take (i := 15) (oi := { dst := some 143, op := Op.move (Operand.tmp 11), type := 3, pos := "whatfor.go:111", after := #[{ on := 12, ground := Ground.guard }], guard := some (12, false) }) (v := ?_) rfl (by kernel_rfl) (by kernel_rfl) (by kernel_rfl) (fun _ _ _ h => h) (Or.inl ⟨by rfl, ?_⟩) (by assumption) ?_
    rotate_left 1
    · intro w hSw
      obtain ⟨s1, s2, s3, s4⟩ := hSw
      go_simp
      try with_reducible rfl
    try simp only [Act.put, List.setIfInBounds_toArray, List.set_cons_zero, List.set_cons_succ]
    refine wpAnyH_take (i := 16) (oi := { dst := some 144, op := Op.binOp BinOp.neq 3 (Operand.tmp 142) (Operand.tmp 143) 3, type := 4, pos := "whatfor.go:111", after := #[{ on := 14, ground := Ground.data }, { on := 15, ground := Ground.data }, { on := 12, ground := Ground.guard }], guard := some (12, false) }) (v := ?_) rfl (by kernel_rfl) (by kernel_rfl) (by kernel_rfl) (fun _ _ _ h => h) (Or.inl ⟨by rfl, ?_⟩) (by assumption) ?_
    rotate_left 1
    · intro w hSw
      obtain ⟨s1, s2, s3, s4⟩ := hSw
      go_simp
      try with_reducible rfl
    try simp only [Act.put, List.setIfInBounds_toArray, List.set_cons_zero, List.set_cons_succ]
    refine wpAnyH_take (i := 17) (oi := { dst := some 145, op := Op.pick (Operand.tmp 140) (Operand.const (Value.bool true)) (Operand.tmp 144), type := 4, pos := "whatfor.go:111", after := #[{ on := 12, ground := Ground.data }, { on := 16, ground := Ground.data }], guard := none }) (v := ?_) rfl (by kernel_rfl) (by kernel_rfl) (by kernel_rfl) (fun _ _ _ h => h) (Or.inl ⟨by rfl, ?_⟩) (by assumption) ?_
    rotate_left 1
    · intro w hSw
      obtain ⟨s1, s2, s3, s4⟩ := hSw
      go_simp
      try with_reducible rfl
    try simp only [Act.put, List.setIfInBounds_toArray, List.set_cons_zero, List.set_cons_succ]
    refine wpAnyH_take (i := 18) (oi := { dst := some 146, op := Op.move (Operand.tmp 145), type := 4, pos := "whatfor.go:111", after := #[{ on := 17, ground := Ground.data }, { on := 12, ground := Ground.chain }], guard := none }) (v := ?_) rfl (by kernel_rfl) (by kernel_rfl) (by kernel_rfl) (fun _ _ _ h => h) (Or.inl ⟨by rfl, ?_⟩) (by assumption) ?_
    rotate_left 1
    · intro w hSw
      obtain ⟨s1, s2, s3, s4⟩ := hSw
      go_simp
      try with_reducible rfl
    try simp only [Act.put, List.setIfInBounds_toArray, List.set_cons_zero, List.set_cons_succ]
    refine wpAnyH_take (i := 19) (oi := { dst := some 147, op := Op.move (Operand.tmp 0), type := 24, pos := "whatfor.go:111", after := #[{ on := 18, ground := Ground.guard }], guard := some (18, false) }) (v := ?_) rfl (by kernel_rfl) (by kernel_rfl) (by kernel_rfl) (fun _ _ _ h => h) (Or.inl ⟨by rfl, ?_⟩) (by assumption) ?_
    rotate_left 1
    · intro w hSw
      obtain ⟨s1, s2, s3, s4⟩ := hSw
      go_simp
      try with_reducible rfl
    try simp only [Act.put, List.setIfInBounds_toArray, List.set_cons_zero, List.set_cons_succ]
    refine wpAnyH_take (i := 22) (oi := { dst := some 150, op := Op.move (Operand.tmp 13), type := 3, pos := "whatfor.go:111", after := #[{ on := 18, ground := Ground.guard }], guard := some (18, false) }) (v := ?_) rfl (by kernel_rfl) (by kernel_rfl) (by kernel_rfl) (fun _ _ _ h => h) (Or.inl ⟨by rfl, ?_⟩) (by assumption) ?_
    rotate_left 1
    · intro w hSw
      obtain ⟨s1, s2, s3, s4⟩ := hSw
      go_simp
      try with_reducible rfl
    try simp only [Act.put, List.setIfInBounds_toArray, List.set_cons_zero, List.set_cons_succ]
    refine wpAnyH_take (i := 23) (oi := { dst := some 151, op := Op.fieldAddr 38 (Operand.tmp 14) 4, type := 0, pos := "whatfor.go:111", after := #[{ on := 18, ground := Ground.guard }], guard := some (18, false) }) (v := ?_) rfl (by kernel_rfl) (by kernel_rfl) (by kernel_rfl) (fun _ _ _ h => h) (Or.inl ⟨by rfl, ?_⟩) (by assumption) ?_
    rotate_left 1
    · intro w hSw
      obtain ⟨s1, s2, s3, s4⟩ := hSw
      go_simp
      try with_reducible rfl
    try simp only [Act.put, List.setIfInBounds_toArray, List.set_cons_zero, List.set_cons_succ]
    refine wpAnyH_take (i := 24) (oi := { dst := some 152, op := Op.load 36 (Operand.tmp 151), type := 36, pos := "whatfor.go:111", after := #[{ on := 23, ground := Ground.data }, { on := 18, ground := Ground.guard }], guard := some (18, false) }) (v := ?_) rfl (by kernel_rfl) (by kernel_rfl) (by kernel_rfl) (fun _ _ _ h => h) (Or.inl ⟨by rfl, ?_⟩) (by assumption) ?_
    rotate_left 1
    · intro w hSw
      obtain ⟨s1, s2, s3, s4⟩ := hSw
      go_simp
      try with_reducible rfl
    try simp only [Act.put, List.setIfInBounds_toArray, List.set_cons_zero, List.set_cons_succ]
    refine wpAnyH_take (i := 25) (oi := { dst := some 153, op := Op.call { callee := Callee.builtin Builtin.len, args := #[Operand.tmp 152], argTypes := #[36] }, type := 3, pos := "whatfor.go:111", after := #[{ on := 24, ground := Ground.data }, { on := 18, ground := Ground.guard }], guard := some (18, false) }) (v := ?_) rfl (by kernel_rfl) (by kernel_rfl) (by kernel_rfl) (fun _ _ _ h => h) (Or.inl ⟨by rfl, ?_⟩) (by assumption) ?_
    rotate_left 1
    · intro w hSw
      obtain ⟨s1, s2, s3, s4⟩ := hSw
      go_simp
      try with_reducible rfl
    try simp only [Act.put, List.setIfInBounds_toArray, List.set_cons_zero, List.set_cons_succ]
    refine wpAnyH_take (i := 26) (oi := { dst := some 154, op := Op.binOp BinOp.sub 3 (Operand.tmp 150) (Operand.tmp 153) 3, type := 3, pos := "whatfor.go:111", after := #[{ on := 22, ground := Ground.data }, { on := 25, ground := Ground.data }, { on := 18, ground := Ground.guard }], guard := some (18, false) }) (v := ?_) rfl (by kernel_rfl) (by kernel_rfl) (by kernel_rfl) (fun _ _ _ h => h) (Or.inl ⟨by rfl, ?_⟩) (by assumption) ?_
    rotate_left 1
    · intro w hSw
      obtain ⟨s1, s2, s3, s4⟩ := hSw
      go_simp
      try with_reducible rfl
    try simp only [Act.put, List.setIfInBounds_toArray, List.set_cons_zero, List.set_cons_succ]
    refine wpAnyH_ready (rs := [20]) (by kernel_rfl) (by simp) ?_
    refine AllReadyH.cons (o := { dst := some 148, op := Op.call { callee := Callee.value (Operand.func 23), args := #[Operand.tmp 147], argTypes := #[24] }, type := 36, pos := "whatfor.go:111", after := #[{ on := 19, ground := Ground.data }, { on := 18, ground := Ground.chain }, { on := 18, ground := Ground.guard }], guard := some (18, false) }) rfl (fun K hK => ?_) AllReadyH.nil
    go_simp
    go_at_call 23
    refine (HFR.out _ (Only.drew [] w6)).mono ?_
    rintro e w8 ⟨v8, rfl, hown8, hX8⟩
    obtain ⟨ad8, cap8, rfl⟩ := own_slice_any hown8
    have HX8 := Lib.hid ((Only.drew [] w6).trans hX8)
    clear hown8 hX8
    go_wp2_with fail
    refine hK.out _ _ (HKP.out _ HX8.out) (fun hHeld => ?_)
    clear hK K
    try simp only [Act.put, List.setIfInBounds_toArray, List.set_cons_zero, List.set_cons_succ]
    refine wpAnyH_take (i := 21) (oi := { dst := some 149, op := Op.call { callee := Callee.builtin Builtin.len, args := #[Operand.tmp 148], argTypes := #[36] }, type := 3, pos := "whatfor.go:111", after := #[{ on := 20, ground := Ground.data }, { on := 18, ground := Ground.guard }], guard := some (18, false) }) (v := ?_) rfl (by kernel_rfl) (by kernel_rfl) (by kernel_rfl) (fun _ _ _ h => h) (Or.inl ⟨by rfl, ?_⟩) (by assumption) ?_
    rotate_left 1
    · intro w hSw
      obtain ⟨s1, s2, s3, s4⟩ := hSw
      go_simp
      try with_reducible rfl
    try simp only [Act.put, List.setIfInBounds_toArray, List.set_cons_zero, List.set_cons_succ]
    refine wpAnyH_take (i := 27) (oi := { dst := some 155, op := Op.binOp BinOp.neq 3 (Operand.tmp 149) (Operand.tmp 154) 3, type := 4, pos := "whatfor.go:111", after := #[{ on := 21, ground := Ground.data }, { on := 26, ground := Ground.data }, { on := 18, ground := Ground.guard }], guard := some (18, false) }) (v := ?_) rfl (by kernel_rfl) (by kernel_rfl) (by kernel_rfl) (fun _ _ _ h => h) (Or.inl ⟨by rfl, ?_⟩) (by assumption) ?_
    rotate_left 1
    · intro w hSw
      obtain ⟨s1, s2, s3, s4⟩ := hSw
      go_simp
      try with_reducible rfl
    try simp only [Act.put, List.setIfInBounds_toArray, List.set_cons_zero, List.set_cons_succ]
    refine wpAnyH_take (i := 28) (oi := { dst := some 156, op := Op.pick (Operand.tmp 146) (Operand.const (Value.bool true)) (Operand.tmp 155), type := 4, pos := "whatfor.go:111", after := #[{ on := 18, ground := Ground.data }, { on := 27, ground := Ground.data }], guard := none }) (v := ?_) rfl (by kernel_rfl) (by kernel_rfl) (by kernel_rfl) (fun _ _ _ h => h) (Or.inl ⟨by rfl, ?_⟩) (by assumption) ?_
    rotate_left 1
    · intro w hSw
      obtain ⟨s1, s2, s3, s4⟩ := hSw
      go_simp
      try with_reducible rfl
    try simp only [Act.put, List.setIfInBounds_toArray, List.set_cons_zero, List.set_cons_succ]
    refine wpAnyH_done (by kernel_rfl) ?_ _
    clear hHeld
    have H88 := Lib.hid (H66.out.only HX8.out (by simp))
    have H78 := Lib.hid (H76.out.only HX8.out (by simp))
    have H98 := Lib.hid (H96.out.only HX8.out (by simp))
    have HE8 := Lib.hid (HE6.out.only HX8.out (by simp))
    have hX58 : Only [bE] w5 w8 := HX56.out.trans (HX8.out.mono (by simp))
    have HX58 := Lib.hid hX58
    have HX08 := Lib.hid (HX6.out.trans (HX8.out.mono (by simp)))
    clear k73 kE2 kE1 kE4 b1 b2 b3 b4 HKP HFR H66 H76 H96 HE6 HT6 HX6 HX56 HX8 hX58
    go_upto_region 16 with fail
    have HK16 : Hid (∀ W, Only [] w8 W → W.cell? ⟨bE, 0, none⟩ = some (.int .i64 rt2) ∧ W.cell? ⟨b6, 1, none⟩ = some (.slice ao ln cap) ∧ W.cell? ⟨b7, 1, none⟩ = some (.int .i64 k) ∧ W.cell? ⟨b7, 2, none⟩ = some (.int .i64 v)) := Lib.hid (fun W o => ⟨(HE8.out.only o (by simp)).cell 0 rfl, (H88.out.only o (by simp)).cell 1 rfl, (H78.out.only o (by simp)).cell 1 rfl, (H78.out.only o (by simp)).cell 2 rfl⟩)
    obtain ⟨kE0, k61, k71, k72⟩ := HK16.out _ (Only.drew [] w8)
    go_cut [20] (fun s20 wc => ∃ vb vv, s20 = .pointer (some ⟨vb, 0, none⟩) ∧ w8.heap.size ≤ vb ∧ Blk wc vb #[.int .i64 rt2, vv] 33 ∧ wc.ownsRow w8.heap.size 56 2 vv (withL (prs ox) k v).length (prsC (withL (prs ox) k v)) ∧ (∀ b, vv.ownBlock = some b → b ≠ vb) ∧ Only [] w8 wc)
    case first =>
      have hvz := ver_zero
      have HOA : Hid (Only [] w8 (w8.alloc (.cells #[.int .i64 0, .slice none 0 0] 33)).drew) := Lib.hid ((Only.alloc [] w8 _).trans (Only.drew _ _))
      have HZ : Hid (Blk (w8.alloc (.cells #[.int .i64 0, .slice none 0 0] 33)).drew w8.heap.size #[.int .i64 0, .slice none 0 0] 33) := Lib.hid (Blk.new w8 _ _).drew
      have HK2 : Hid (∀ (W : World) (b : Nat) (x y : Value), w8.heap.size ≤ b → Only [] w8 W → Only [] w8 ((W.setCell ⟨b, 0, none⟩ x).setCell ⟨b, 1, none⟩ y)) := Lib.hid (fun W b x y hb o => o.past ((Only.setCell (S := [b]) W (a := ⟨b, 0, none⟩) (by simp) x).trans (Only.setCell _ (by simp) y)) (fun i hi => by simp at hi; subst hi; exact Or.inr hb))
      go_region_held3 (fun W => W.cell? ⟨bE, 0, none⟩ = some (.int .i64 rt2) ∧ W.cell? ⟨b6, 1, none⟩ = some (.slice ao ln cap) ∧ W.cell? ⟨b7, 1, none⟩ = some (.int .i64 k) ∧ W.cell? ⟨b7, 2, none⟩ = some (.int .i64 v))
        (first | with_reducible exact ⟨kE0, k61, k71, k72⟩ | with_reducible exact HK16.out _ HOA.out | with_reducible exact HK16.out _ HX9.out | with_reducible exact HK16.out _ (HX9.out.trans (Only.alloc _ _ _)) | with_reducible exact HK16.out _ (HK2.out _ _ _ _ (Nat.le_refl _) HX9.out))
        (first | (go_at_call 15; refine (HWITH.out w8.drew (HX08.out.trans (Only.drew _ _))).mono ?_; rintro e w9 ⟨v9, rfl, hO9, hX9⟩; obtain ⟨ad9, cap9, rfl⟩ := own_slice_any hO9; have HX9 := Lib.hid ((Only.drew [] w8).trans hX9); have HO9 := Lib.hid hO9; clear hX9 hO9) | (go_at_call 15; refine (HWITH.out (w8.alloc (.cells #[.int .i64 0, .slice none 0 0] 33)).drew (HX08.out.trans (HOA.out.mono (by simp)))).mono ?_; rintro e w9 ⟨v9, rfl, hO9, hX9⟩; obtain ⟨ad9, cap9, rfl⟩ := own_slice_any hO9; have hz9 := HZ.out.only hX9 (by simp); have z90 := hz9.cell 0 rfl; have z91 := hz9.cell 1 rfl; have g90 := hz9.free 0; have g91 := hz9.free 1; have HZ9 := Lib.hid hz9; have HX9 := Lib.hid (HOA.out.trans hX9); have HO9 := Lib.hid hO9; clear hX9 hO9 hz9))
      all_goals go_wp2_with fail
      all_goals go_meet
      · exact ⟨_, _, rfl, HX9.out.size, Blk.new _ _ _, ownsRow_only HO9.out (Only.alloc [] _ _) (by simp), fun b hb e => (by have h1 := (HO9.out.lt b hb).2; omega), HX9.out.trans (Only.alloc _ _ _)⟩
      · exact ⟨_, _, rfl, Nat.le_refl _, (HZ9.out.set_same 0 _).set_same 1 _, own_weaken (ownsRow_only HO9.out ((Only.setCell (S := [w8.heap.size]) _ (by simp) _).trans (Only.setCell _ (by simp) _)) (fun b hb hm => by have h1 := (HO9.out.lt b hb).1; simp at hm h1; omega)) (by simp), fun b hb e => (by have h1 := (HO9.out.lt b hb).1; simp at h1; omega), HK2.out _ _ _ _ (Nat.le_refl _) HX9.out⟩
    case rest =>
    obtain ⟨wk, hwk⟩ : ∃ x, x = wc := ⟨_, rfl⟩
    subst hwk
    obtain ⟨vb, vv, rfl, hvb, hV, hvo, hvn, hX10⟩ := hcut
    have HV := Lib.hid hV
    have HVO := Lib.hid hvo
    have HVN := Lib.hid hvn
    have HVB := Lib.hid hvb
    have H79 := Lib.hid (H78.out.only hX10 (by simp))
    have h99 := H98.out.only hX10 (by simp)
    have H99 := Lib.hid h99
    have hE9 := HE8.out.only hX10 (by simp)
    have HE9 := Lib.hid hE9
    have HX10 := Lib.hid hX10
    have c73 := H79.out.cell 3 rfl
    clear hvb hV hvo hvn hX10 kE0 k61 k71 k72 HK16
    have e0 := hE9.cell 0 rfl
    have e1 := hE9.cell 1 rfl
    have e2 := hE9.cell 2 rfl
    have e3 := hE9.cell 3 rfl
    have e4 := hE9.cell 4 rfl
    have z0 := h99.cell 0 rfl
    have z1 := h99.cell 1 rfl
    have z2 := h99.cell 2 rfl
    have z3 := h99.cell 3 rfl
    have z4 := h99.cell 4 rfl
    have q0 := h99.free 0
    have q1 := h99.free 1
    have q2 := h99.free 2
    have q3 := h99.free 3
    have q4 := h99.free 4
    clear hE9 h99
    go_upto_region 19 with fail
    go_cut [8, 10] (fun s8 s10 wz => s8 = .pointer (some ⟨vb, 0, none⟩) ∧ s10 = .bool true ∧ Blk wz b9 #[.int .i64 rt2, .int .i64 old, .bool hd, .slice gad gl gcap, .slice mad m mcap] 38 ∧ Only [b9] wk wz)
    case first =>
      go_region
      all_goals go_wp2_with fail
      all_goals go_meet
      exact ⟨rfl, rfl, (H99.out.fill5 (.int .i64 rt2) (.int .i64 old) (.bool hd) (.slice gad gl gcap) (.slice mad m mcap)).1.drew, (H99.out.fill5 (.int .i64 rt2) (.int .i64 old) (.bool hd) (.slice gad gl gcap) (.slice mad m mcap)).2.trans (Only.drew _ _)⟩
    case rest =>
    obtain ⟨rfl, rfl, hZ, hXZ⟩ := hcut
    have r0 := hZ.cell 0 rfl
    have r1 := hZ.cell 1 rfl
    have r2 := hZ.cell 2 rfl
    have r3 := hZ.cell 3 rfl
    have r4 := hZ.cell 4 rfl
    have HXZ := Lib.hid hXZ
    clear hZ hXZ e0 e1 e2 e3 e4 z0 z1 z2 z3 z4 q0 q1 q2 q3 q4
    go_wp2_with fail
    refine bodyPost_ret (v := .tuple #[.pointer (some ⟨vb, 0, none⟩), .agg #[.int .i64 rt2, .int .i64 old, .bool hd, .slice gad gl gcap, .slice mad m mcap], .bool true]) (by simp [results, Try.results10, go_sem, r0, r1, r2, r3, r4]) rfl ?_
    clear r0 r1 r2 r3 r4
    have hbb := HBB.out
    have hbe := HBE.out
    have hlt := HT.out.lt
    have hE8 := HE8.out.lt
    have hXk : Only [bE] w5 wk := HX58.out.trans (HX10.out.mono (by simp))
    have hXf : Only [bE, b9] w5 wc := (hXk.mono (by simp)).trans (HXZ.out.mono (by simp))
    obtain ⟨g2, ao2, cap2, rfl, hR2, hg2, hg3, _⟩ := rowp_own HVO.out
    have hv8 := HVB.out
    have hs08 := HX08.out.size
    have hsk := HX10.out.size
    have hsf := HXZ.out.size
    have hs4 := HS45.out
    have hoff : ∀ b, w4.heap.size ≤ b → b ∉ [bE, b9] := fun b hb hm => by simp at hm; omega
    left
    refine ⟨oy, S', t', m, gs, rest, _, _, vb, g2, ao2, cap2, by rw [HRT2.out, HNM.out.2.2.1, HNM.out.2.2.2.1], HOK.out.1, HOK.out.2.1, HOK.out.2.2.1, HOK.out.2.2.2.1.other hXf (by simp; omega) (fun k hk hm => by have := hlt.2 k hk; simp at hm; omega), ?_, own_weaken (ownsRow_only HOK.out.2.2.2.2.2.1 hXf (fun b hb => hoff b (HOK.out.2.2.2.2.2.1.lt b hb).1)) hs4.1, HOK.out.2.2.2.2.2.2.1, HOK.out.2.2.2.2.2.2.2.1, by rw [HGL.out]; exact HOK.out.2.2.2.2.2.2.2.2.1, HOK.out.2.2.2.2.2.2.2.2.2, by rw [HRT2.out]; exact HV.out.only HXZ.out (by simp; omega), by omega, hR2.only HXZ.out (by simp; omega), by omega, fun h => by have := hg3 h; omega, (HX08.out.trans (HX10.out.mono (by simp))).past HXZ.out (fun i hi => Or.inr (by simp at hi; omega))⟩
    rw [HGL.out]
    exact own_weaken (ownsRow_only HOK.out.2.2.2.2.1 hXf (fun b hb => hoff b (HOK.out.2.2.2.2.1.lt b hb).1)) hs4.1
  · obtain ⟨rfl, S5, t5, hT5, hU5, ht5, hX5⟩ := hNo
    have HT5 := Lib.hid hT5
    have HU5 := Lib.hid (And.intro hU5 ht5)
    clear hT5 hU5 ht5
    have f1 : decide (k < 0) = false := by have := HK.out; unfold InK at this; simp; omega
    have f2 : decide (4294967295 < k) = false := by have := HK.out; unfold InK at this; simp; omega
    have hlt4 : ∀ b, b = b6 ∨ b = b7 ∨ b = b9 ∨ b = bE → b ∉ A.all := by
      intro b hb hm
      have h1 := HT.out.lt.2 b hm
      have h2 := HBB.out
      have h3 := HBE.out
      rcases hb with rfl | rfl | rfl | rfl <;> omega
    have H6 := Lib.hid (H6.out.only hX5 (hlt4 _ (Or.inl rfl)))
    have H7 := Lib.hid (H7.out.only hX5 (hlt4 _ (Or.inr (Or.inl rfl))))
    have H9 := Lib.hid (H9.out.only hX5 (hlt4 _ (Or.inr (Or.inr (Or.inl rfl)))))
    have hE := HE.out.only hX5 (hlt4 _ (Or.inr (Or.inr (Or.inr rfl))))
    have HE := Lib.hid hE
    have HX5 := Lib.hid ((HX4.out.mono (by simp)).trans hX5)
    have q0 := hE.free 0
    have q1 := hE.free 1
    have q2 := hE.free 2
    have q3 := hE.free 3
    have q4 := hE.free 4
    have z0 := hE.cell 0 rfl
    have z1 := hE.cell 1 rfl
    have z2 := hE.cell 2 rfl
    have z3 := hE.cell 3 rfl
    have z4 := hE.cell 4 rfl
    clear hX5 hE hlt4 HX4 HCALL c60 c71 c72 c73
    go_upto_region 8 with fail
    refine wp_name (fun w6 => Blk w6 bE #[.int .i64 0, .int .i64 0, .bool false, .slice none 0 0, .slice none 0 0] 38 ∧ Only [bE] w5 w6) (HE.out.fill5 _ _ _ _ _) ?_
    clear q0 q1 q2 q3 q4 z0 z1 z2 z3 z4 HE
    rintro w6 ⟨hE6, hX6⟩
    have HE6 := Lib.hid hE6
    have H76 := Lib.hid (H7.out.only hX6 (by have := HBB.out; have := HBE.out; simp; omega))
    have H96 := Lib.hid (H9.out.only hX6 (by have := HBB.out; have := HBE.out; simp; omega))
    have HT6 : Hid (TrAt w6 tb A n S5 t5 fs0 fa) := by
      have h1 := HT.out.lt
      have h2 := HBB.out
      have h3 := HBE.out
      exact Lib.hid (HT5.out.other hX6 (by simp; omega) (fun k hk hm => by have := h1.2 k hk; simp at hm; omega))
    have HX56 := Lib.hid hX6
    clear hE6 hX6 H6 H7 H9
    have c71 := H76.out.cell 1 rfl
    have c73 := H76.out.cell 3 rfl
    go_upto_region 13 with (go_at_call 8; refine (num_12 _ _).mono ?_; rintro e w' ⟨rfl, rfl⟩)
    have HKP : Hid (∀ W, Only [b9] w6 W → W.cell? ⟨bE, 0, none⟩ = some (.int .i64 0) ∧ W.cell? ⟨bE, 1, none⟩ = some (.int .i64 0) ∧ W.cell? ⟨bE, 2, none⟩ = some (.bool false) ∧ W.cell? ⟨bE, 3, none⟩ = some (.slice none 0 0) ∧ W.cell? ⟨bE, 4, none⟩ = some (.slice none 0 0)) := Lib.hid (fun W o => by
      have h3 := HBE.out
      have h := HE6.out.only o (by simp; omega)
      exact ⟨h.cell 0 rfl, h.cell 1 rfl, h.cell 2 rfl, h.cell 3 rfl, h.cell 4 rfl⟩)
    obtain ⟨kE0, kE1, kE2, kE3, kE4⟩ := HKP.out _ (Only.drew [b9] w6)
    have b3 : ((lf : Int) == lf) = true := by simp
    have HFR := Lib.hid (fun W (o : Only [] w6 W) => pool_free A n S5 t5 fs0 fa W (HT6.out.plain o).pool)
    rw [HNM.out.2.2.2.2] at HFR
    have HST : Hid (∀ (W : World), Only [] w6 W → Blk W b9 #[.int .i64 0, .int .i64 0, .bool false, .slice none 0 0, .slice none 0 0] 38) := Lib.hid (fun W o => H96.out.only o (by simp))
    have HS5 : Hid (∀ W, Only [] w6 W → Only [b9] w6 (((((W.setCell ⟨b9, 0, none⟩ (.int .i64 0)).setCell ⟨b9, 1, none⟩ (.int .i64 0)).setCell ⟨b9, 2, none⟩ (.bool false)).setCell ⟨b9, 3, none⟩ (.slice none 0 0)).setCell ⟨b9, 4, none⟩ (.slice none 0 0))) := Lib.hid (fun W o => (o.mono (by simp)).trans ((HST.out W o).fill5 _ _ _ _ _).2)
    go_cut [8, 10] (fun s8 s10 wz => s8 = .pointer none ∧ s10 = .bool true ∧ Blk wz b9 #[.int .i64 0, .int .i64 0, .bool false, .slice none 0 0, .slice none 0 0] 38 ∧ Only [b9] w6 wz)
    case first =>
      go_region_held3 (fun W => W.cell? ⟨bE, 0, none⟩ = some (.int .i64 0) ∧ W.cell? ⟨bE, 1, none⟩ = some (.int .i64 0) ∧ W.cell? ⟨bE, 2, none⟩ = some (.bool false) ∧ W.cell? ⟨bE, 3, none⟩ = some (.slice none 0 0) ∧ W.cell? ⟨bE, 4, none⟩ = some (.slice none 0 0))
        (first | with_reducible exact ⟨kE0, kE1, kE2, kE3, kE4⟩ | with_reducible exact HKP.out _ (HX8.out.mono (by simp)) | with_reducible exact HKP.out _ (HS5.out _ HX8.out))
        (first | (go_at_call 23; refine (HFR.out _ (Only.drew [] w6)).mono ?_; rintro e w8 ⟨v8, rfl, hown8, hX8⟩; obtain ⟨ad8, cap8, rfl⟩ := own_slice_any hown8; have hX8' := (Only.drew [] w6).trans hX8; have h8 := HST.out _ hX8'; have z0 := h8.cell 0 rfl; have z1 := h8.cell 1 rfl; have z2 := h8.cell 2 rfl; have z3 := h8.cell 3 rfl; have z4 := h8.cell 4 rfl; have q0 := h8.free 0; have q1 := h8.free 1; have q2 := h8.free 2; have q3 := h8.free 3; have q4 := h8.free 4; have HX8 := Lib.hid hX8'; clear hown8 hX8 hX8' h8))
      all_goals go_wp2_with fail
      all_goals go_meet
      all_goals exact ⟨rfl, rfl, ((HST.out _ HX8.out).fill5 _ _ _ _ _).1, HS5.out _ HX8.out⟩
    case rest =>
    obtain ⟨rfl, rfl, hZ, hXZ⟩ := hcut
    have r0 := hZ.cell 0 rfl
    have r1 := hZ.cell 1 rfl
    have r2 := hZ.cell 2 rfl
    have r3 := hZ.cell 3 rfl
    have r4 := hZ.cell 4 rfl
    have HXZ := Lib.hid hXZ
    clear hZ hXZ kE0 kE1 kE2 kE3 kE4 b3 HKP HFR HST HS5 c71 c73
    go_wp2_with fail
    refine bodyPost_ret (v := .tuple #[.pointer none, editZ, .bool true]) (by simp [editZ, results, Try.results10, go_sem, r0, r1, r2, r3, r4]) rfl ?_
    clear r0 r1 r2 r3 r4
    have hbb := HBB.out
    have hbe := HBE.out
    have hlt := HT.out.lt
    have hs6 := HX56.out.size
    right
    exact ⟨rfl, S5, t5, HT6.out.other HXZ.out (by simp; omega) (fun k hk hm => by have := hlt.2 k hk; simp at hm; omega), HU5.out.1, HU5.out.2, (HX5.out.past HX56.out (fun i hi => Or.inr (by simp at hi; omega))).past HXZ.out (fun i hi => Or.inr (by simp at hi; omega))⟩

end Go.Proofs.Ytacegkjobfeiiaa

