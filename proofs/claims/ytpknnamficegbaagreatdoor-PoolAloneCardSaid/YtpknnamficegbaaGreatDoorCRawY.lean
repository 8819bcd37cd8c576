/- A pool, alone, its pile linked anyhow: Link, errors of CasMark, Link, SwapLink; Slots; New. Condition: the pool stands in memory as PoolR says. · A pool, alone, its pile linked anyhow: Gens. Condition: the pool stands in memory as PoolR says. · A pool, alone, its pile linked anyhow: Gens as a call. Condition: the pool stands in memory as PoolR says. -/
import Derived.Maps.AppendAt
import Derived.Test.YtpknnamficegbaaGreatDoorCSlots
import Derived.Test.YtpknnamficegbaaGreatDoorCRawF
import Derived.Test.YtpknnamficegbaaGreatDoorCRefW
set_option linter.unusedVariables false
set_option linter.unusedSimpArgs false
set_option linter.unusedSectionVars false
set_option linter.unnecessarySimpa false
namespace Go.Proofs.YtpknnamficegbaaGreatDoor
open Go.RowKit

set_option maxHeartbeats 400000 in
theorem rpool_cas_err (A : PA) (n : Nat) (S : Nat → Sl) (hd : Nat) (t : Int) (nx : List Int) (fa h err fa' old x : Int) (w : World) (H : PoolR w A n S hd t nx fa) (M : RMisses A n S hd t nx fa h err fa') (he : (err != 0) = true) :
    Calls Tryz.prog 25 #[.pointer (some ⟨A.p, 0, none⟩), .pointer none, .int .i64 h, .int .i64 old, .int .i64 x] w fun e w' => e = .returned (.tuple #[.bool false, .int .i64 err]) ∧ PoolR w' A n S hd t nx fa' ∧ Only A.all w w' := by
  have HM := Lib.hid (M w H)
  clear M H
  go_enter Tryz.func25, Tryz.ntmps25
  go_wp2_with fail
  refine HM.out.mono ?_
  rintro e w1 ⟨rfl, hP, hX⟩
  have HP := Lib.hid (And.intro hP hX)
  clear hP hX
  go_wp2_with fail
  go_ret2
  exact ⟨rfl, HP.out.1, HP.out.2⟩

set_option maxHeartbeats 400000 in
theorem rpool_link_err (A : PA) (n : Nat) (S : Nat → Sl) (hd : Nat) (t : Int) (nx : List Int) (fa h err fa' : Int) (w : World) (H : PoolR w A n S hd t nx fa) (M : RMisses A n S hd t nx fa h err fa') (he : (err != 0) = true) :
    Calls Tryz.prog 27 #[.pointer (some ⟨A.p, 0, none⟩), .pointer none, .int .i64 h] w fun e w' => e = .returned (.tuple #[.int .i64 0, .int .i64 err]) ∧ PoolR w' A n S hd t nx fa' ∧ Only A.all w w' := by
  have HM := Lib.hid (M w H)
  clear M H
  go_enter Tryz.func27, Tryz.ntmps27
  go_wp2_with fail
  refine HM.out.mono ?_
  rintro e w1 ⟨rfl, hP, hX⟩
  have HP := Lib.hid (And.intro hP hX)
  clear hP hX
  go_wp2_with fail
  go_ret2
  exact ⟨rfl, HP.out.1, HP.out.2⟩

set_option maxHeartbeats 400000 in
theorem rpool_swaplink_err (A : PA) (n : Nat) (S : Nat → Sl) (hd : Nat) (t : Int) (nx : List Int) (fa h err fa' x : Int) (w : World) (H : PoolR w A n S hd t nx fa) (M : RMisses A n S hd t nx fa h err fa') (he : (err != 0) = true) :
    Calls Tryz.prog 29 #[.pointer (some ⟨A.p, 0, none⟩), .pointer none, .int .i64 h, .int .i64 x] w fun e w' => e = .returned (.tuple #[.int .i64 0, .int .i64 err]) ∧ PoolR w' A n S hd t nx fa' ∧ Only A.all w w' := by
  have HM := Lib.hid (M w H)
  clear M H
  go_enter Tryz.func29, Tryz.ntmps29
  go_wp2_with fail
  refine HM.out.mono ?_
  rintro e w1 ⟨rfl, hP, hX⟩
  have HP := Lib.hid (And.intro hP hX)
  clear hP hX
  go_wp2_with fail
  go_ret2
  exact ⟨rfl, HP.out.1, HP.out.2⟩

set_option maxHeartbeats 400000 in
theorem rpool_link (A : PA) (n i : Nat) (S : Nat → Sl) (hd : Nat) (t : Int) (nx : List Int) (fa h : Int) (w : World) (H : PoolR w A n S hd t nx fa) (h2 : i ≤ n) (M : RMeets A n S hd t nx fa h i) :
    Calls Tryz.prog 27 #[.pointer (some ⟨A.p, 0, none⟩), .pointer none, .int .i64 h] w fun e w' => e = .returned (.tuple #[.int .i64 (S i).link, .int .i64 0]) ∧ w = w' := by
  have HM := Lib.hid (M w H)
  have hc := H.row.slot i 2 (by omega) (slot_room h2)
  rw [show (S i).get 2 = (S i).link from rfl] at hc
  clear M H
  go_enter Tryz.func27, Tryz.ntmps27
  go_wp2_with fail
  refine HM.out.mono ?_
  rintro e w' ⟨rfl, rfl⟩
  go_wp2_with fail
  refine (load_any _ _ _ hc).mono ?_
  rintro e w' ⟨rfl, rfl⟩
  go_wp2_with fail
  go_ret2
  exact ⟨rfl, rfl⟩

set_option maxRecDepth 100000 in
set_option maxHeartbeats 1600000 in
theorem rpool_slots (A : PA) (n hd : Nat) (S : Nat → Sl) (t : Int) (nx : List Int) (fa : Int) (w : World) (H : PoolR w A n S hd t nx fa) :
    Calls Tryz.prog 14 #[.pointer (some ⟨A.p, 0, none⟩)] w fun e w' => ∃ v, e = .returned v ∧ w'.ownsRow w.heap.size 64 7 v n (slotsCells S n) ∧ Only [] w w' := by
  have hm := H.many
  obtain ⟨i0, hi0, hz0, hz1, hz2⟩ := info_parts info_Slot
  have HH := Lib.hid H
  clear H
  go_enter Tryz.func14, Tryz.ntmps14
  go_wp2_with fail
  go_loopg [3, 4] n (fun g s3 s4 wr => ∃ k : Nat, k + g = n ∧ s4 = .int .i64 ((k : Int) + 1) ∧ wr.ownsRow w.heap.size 64 7 s3 k (slotsCells S k) ∧ Only [] w wr)
  case atStart => exact ⟨0, by omega, rfl, World.ownsRow_nil _ _ _ _, Only.refl _ _⟩
  case round =>
    obtain ⟨k, hk, rfl, hown, hO⟩ := hrel
    have hP := HH.out.only hO (by simp)
    have hs0 : wr.cell? ⟨A.p, 0, none⟩ = some (.slice (some ⟨A.sb, 0, none⟩) (n + 1) (n + 1)) := hP.head.cell 0 rfl
    have hsz := hO.size
    have HK := Lib.hid hk
    by_cases hkn : k < n
    · have hki : (k : Int) + 1 < (n : Int) + 1 := by omega
      have hk2 : k ≤ n ∧ n ≤ 4096 := by omega
      obtain ⟨hk3, hk4⟩ := hk2
      clear hk
      have htn : ((k : Int) + 1).toNat = k + 1 := by omega
      have hsn := Lib.hid (slotsCells_succ S k)
      generalize slotsCells S k = xs at hown hsn
      go_upto_block 1 with fail
      go_cut [3] (fun s3 wc => wc.ownsRow w.heap.size 64 7 s3 (k + 1) (xs ++ slotCells (S (k + 1))) ∧ Only [] w wc)
      case first =>
        go_upto_region 6 with fail
        have hr := hP.row
        have g0 : wr.drew.cell? ⟨A.sb, (k + 1) * 7, none⟩ = some (.int .i64 (S (k + 1)).gen) := hr.slot (k + 1) 0 (by omega) (slot_room (by omega))
        have HR := Lib.hid (hr.only (Only.drew [] wr) (by simp))
        have HPP := Lib.hid hP
        have HOWN := Lib.hid hown
        have HOO := Lib.hid hO
        clear hr hP hown hO
        go_region_law (first | (refine step_append_own rfl (.tmp 21) (.tmp 37) 58 rfl w.heap.size 64 i0 _ 7 56 Tryz.underlying58 hi0 hz0 hz1 hz2 rfl (by decide) _ _ _ rfl (hown2.alloc _) ⟨w2.heap.size, 0, none⟩ 1 1 (slotCells (S (k + 1))) rfl rfl (cells_seven _ _ _ _ _ _ _ _ _) (fun u hu => by simp [slotCells] at hu; rcases hu with rfl | rfl | rfl | rfl | rfl | rfl | rfl <;> rfl) (by unfold maxLen; omega) (by omega) (by simp; omega) ?_; intro v' w5 hown5 hg5) | (go_simp; go_at_call 63; (with_reducible refine (slot_holds A.sb _ (k + 1) S wr.drew HR.out (slot_room (by omega))).mono ?_); rintro e w2 ⟨rfl, hX2⟩; have hown2 := HOWN.out.drew.kept (row := none) (w' := w2) ⟨hX2.os, hX2.tape, hX2.output, hX2.size, fun k hk _ => hX2.block k hk (by simp)⟩ (by cases hv : u3.ownBlock <;> simp); have m1 : w2.cell? ⟨A.sb, (k + 1) * 7 + 1, none⟩ = some (.int .i64 (S (k + 1)).mark) := (HR.out.only hX2 (by simp)).slot (k + 1) 1 (by omega) (slot_room (by omega)); have m2 : w2.cell? ⟨A.sb, (k + 1) * 7 + 2, none⟩ = some (.int .i64 (S (k + 1)).link) := (HR.out.only hX2 (by simp)).slot (k + 1) 2 (by omega) (slot_room (by omega)); have hsz2 : w.heap.size ≤ w2.heap.size := Nat.le_trans hsz hX2.size) | (go_simp; go_at_call 67; ((first | (with_reducible refine (load_any ⟨A.sb, (k + 1) * 7, none⟩ _ wr.drew g0).mono ?_) | (with_reducible refine (load_any ⟨A.sb, (k + 1) * 7 + 1, none⟩ _ w2 m1).mono ?_) | (with_reducible refine (load_any ⟨A.sb, (k + 1) * 7 + 2, none⟩ _ w2 m2).mono ?_)); rintro e w' ⟨rfl, rfl⟩)))
        all_goals (go_wp2_with fail; go_meet)
        all_goals exact ⟨hown5, ((HOO.out.trans (Only.drew [] wr)).trans hX2).appended hown2 (Nat.le_refl _) hg5⟩
      case rest =>
        obtain ⟨hown2, hO2⟩ := hcut
        rw [← hsn.out] at hown2
        have HO2 := Lib.hid hown2
        clear hown2 hown hO hP hsn
        go_wp2_with fail
        go_roundg (gk - 1)
        case measure => have := HK.out; omega
        case rel => exact ⟨k + 1, by have := HK.out; omega, by rw [show ((k + 1 : Nat) : Int) = (k : Int) + 1 from by omega], HO2.out, hO2⟩
    · have hkn' : k = n := by omega
      subst hkn'
      clear hk
      have HOW := Lib.hid hown
      clear hown
      go_wp2_with fail
      go_ret
      exact ⟨_, rfl, HOW.out, hO⟩

theorem rpile_init {w : World} {pb nb n : Nat} (h1 : 1 ≤ n) (h : PileAt w pb nb n 0 (List.range' 1 n) (nxInit n n)) : PileR w pb nb n 1 0 (nxInit n n) := by
  have := h.raw (fun j hj => by rw [nxInit_getD hj]; split <;> omega)
  obtain ⟨m, rfl⟩ : ∃ m, n = m + 1 := ⟨n - 1, by omega⟩
  rw [List.range'_succ] at this
  exact this

set_option maxHeartbeats 800000 in
theorem rpool_new (n : Nat) (h1 : 1 ≤ n) (h2 : n ≤ 4096) (w : World) :
    Calls Tryz.prog 9 #[.int .i64 n] w fun e w' => ∃ A : PA, e = .returned (.tuple #[.pointer (some ⟨A.p, 0, none⟩), .int .i64 0]) ∧ PoolR w' A n (fun _ => slot0) 1 0 (nxInit n n) 0 ∧ Only [] w w' ∧ ∀ k, k ∈ A.all → w.heap.size ≤ k := by
  go_enter Tryz.func9, Tryz.ntmps9
  go_wp2_with fail
  refine (pile_new n h1 h2 w).mono ?_
  rintro e w1 ⟨rfl, hP, hO⟩
  obtain ⟨c, hcs, hcz, hmk⟩ := make_slots n (by omega) w1
  have HC := Lib.hid hcs
  have HZ := Lib.hid hcz
  clear hcs hcz
  have hsz := hO.size
  have hlp := hP.head.lt
  have hlq := hP.row.lt
  go_wp2_with fail
  go_ret2
  refine ⟨⟨w1.heap.size + 1, w1.heap.size, w.heap.size + 1, w.heap.size⟩, rfl, ⟨?_, ?_, rpile_init h1 (hP.only ((Only.alloc [] _ _).trans (Only.alloc [] _ _)) (by simp) (by simp)), ?_⟩, ?_, ?_⟩
  · have := Blk.new (w1.alloc (.cells c 112)) #[.slice (some ⟨w1.heap.size, 0, none⟩) (n + 1) (n + 1), .pointer (some ⟨w.heap.size + 1, 0, none⟩), .int .i64 0] 104
    simpa using this
  · refine RowI.of_blk ((Blk.new w1 c 112).alloc _) HC.out ?_
    intro j hj
    rw [flat_slot0]
    exact HZ.out j hj
  · refine ⟨?_, ?_, ?_, ?_, ?_⟩ <;> simp <;> omega
  · exact hO.trans ((Only.alloc [] _ _).trans (Only.alloc [] _ _))
  · intro k hk
    simp [PA.all] at hk
    omega

set_option maxHeartbeats 400000 in
theorem rpile_new_bad {n : Int} (hn : n < 1 ∨ 4096 < n) (w : World) : Calls Tryz.prog 53 #[.int .i64 n, .int .i64 0] w fun e w' => e = .returned (.tuple #[.pointer none, .int .i64 81]) ∧ w = w' := by
  have HP := Lib.hid (fun w => word_pack 1 0 w (by omega) (by omega) (by omega) (by omega))
  obtain ⟨X, hX⟩ : ∃ X, wd 1 0 = X := ⟨_, rfl⟩
  rw [hX] at HP
  clear hX
  by_cases h1 : n < 1
  · clear hn
    go_enter Tryz.func53, Tryz.ntmps53
    go_wp2_with fail
    refine (HP.out _).mono ?_
    rintro e w' ⟨rfl, rfl⟩
    go_wp2_with fail
    go_ret2
    exact ⟨rfl, rfl⟩
  · have h2 : 4096 < n := by omega
    clear hn
    go_enter Tryz.func53, Tryz.ntmps53
    go_wp2_with fail
    refine (HP.out _).mono ?_
    rintro e w' ⟨rfl, rfl⟩
    go_wp2_with fail
    go_ret2
    exact ⟨rfl, rfl⟩

set_option maxHeartbeats 400000 in
theorem rpool_new_bad {n : Int} (hn : n < 1 ∨ 4096 < n) (w : World) : Calls Tryz.prog 9 #[.int .i64 n] w fun e w' => e = .returned (.tuple #[.pointer none, .int .i64 101]) ∧ w = w' := by
  have HP := Lib.hid (fun w => rpile_new_bad hn w)
  clear hn
  go_enter Tryz.func9, Tryz.ntmps9
  go_wp2_with fail
  refine (HP.out _).mono ?_
  rintro e w' ⟨rfl, rfl⟩
  go_wp2_with fail
  go_ret2
  exact ⟨rfl, rfl⟩

end Go.Proofs.YtpknnamficegbaaGreatDoor

namespace Go.Proofs.YtpknnamficegbaaGreatDoor
open Go.RowKit

theorem cell_new2 (w : World) (o : Obj) (x : Value) (t : TypeId) : ∀ j u, [x][j]? = some u → ((w.alloc o).alloc (.cells #[x] t)).cell? ((⟨w.heap.size + 1, 0, none⟩ : Addr).add j) = some u := by
  have h := cell_one_new (w.alloc o) x t
  simpa using h

theorem cell_new3 (w : World) (o : Obj) (x : Value) (t : TypeId) : ∀ j u, [x][j]? = some u → ((w.alloc (.cells #[x] t)).alloc o).cell? ((⟨w.heap.size, 0, none⟩ : Addr).add j) = some u := by
  intro j u hj
  have h := cell_one_new w x t j u hj
  match j, hj with
  | 0, hj => exact keep_cell (Only.alloc [] _ o) h

/-- append to a slice of the call's own, as one step of a region that draws; where the row comes to lie. -/
theorem step_append_at {P : Program} {ops : Array Oper} {o : Oper} {a : Act} {w : World} {K : Act → World → Prop} {Q : Exit → Act → World → Prop} {E : Prop} (hgd : o.guard = none) (s x : Operand) (t : TypeId)
    (ho : o.op = .call { callee := .builtin .append, args := #[s, x], argTypes := #[t, t] })
    (base : Nat) (e : TypeId) (i : TypeInfo) (z : Value) (size bytes : Nat) (ht : P.underlying t = some (.slice e)) (hi : P.info? e = some i) (hz : i.zero = some z)
    (hsize : i.size = size) (hby : i.bytes = bytes) (hzs : z.cells.size = size) (hsz : 0 < size)
    (v : Value) (n : Nat) (xs : List Value) (hs : a.eval s = v) (hown : w.ownsRow base e size v n xs)
    (ad : Addr) (m c : Nat) (news : List Value) (hx : a.eval x = .slice (some ad) m c) (hl : news.length = m * size) (hnews : ∀ j u, news[j]? = some u → w.cell? (ad.add j) = some u) (h1 : ∀ u ∈ news, u.oneCell' = true)
    (h63 : n + m ≤ maxLen) (hbytes : (n + m) * bytes ≤ 140737488355328) (hbase : base ≤ w.heap.size)
    (h : ∀ v' w', w'.ownsRow base e size v' (n + m) (xs ++ news) → Only v.ownBlock.toList w w' → (∀ b, v'.ownBlock = some b → v.ownBlock = some b ∨ w.heap.size ≤ b) → K (a.put o.dst v') w') :
    if Region.wanted o (yielded ops a.tmps) = true then Oper.wp P o a w K Q else E := by
  have hw : Region.wanted o (yielded ops a.tmps) = true := by simp [Region.wanted, hgd]
  rw [if_pos hw]
  obtain ⟨v', w', hr, h2, h3, h4, h5⟩ := run_append_own_at (P := P) w base t o.type e i z size bytes ht hi hz hsize hby hzs hsz v n xs hown ad m c news hl hnews h1 h63 hbytes hbase
  unfold Oper.wp execOp
  simp only [ho, resolve, invoke, builtin, Sem.run_bind, Sem.run_pure, Result.andThen_ok, List.map_toArray, List.map_cons, List.map_nil, hs, hx, hr]
  refine h v' w' h2 (Only.of_grown h3 (by intro k hk; simp [hk])) (fun b hb => ?_)
  rcases h5 with h5 | h5
  · exact Or.inl (by rw [← h5]; exact hb)
  · right; rw [h5] at hb; simp at hb; omega

/-- Two rows of the call's own. -/
structure TwoR (base jg jm : Nat) (xg xm : List Value) (vg vm : Value) (W : World) : Prop where
  g : W.ownsRow base 3 1 vg jg xg
  m : W.ownsRow base 3 1 vm jm xm
  d : ApartV vg vm
  b : base ≤ W.heap.size

section
variable {base jg jm : Nat} {xg xm : List Value} {vg vm : Value} {W X Y : World}

theorem TwoR.ext (h : TwoR base jg jm xg xm vg vm W) (o : Only [] W X) : TwoR base jg jm xg xm vg vm X := ⟨ownsRow_only h.g o (by simp), ownsRow_only h.m o (by simp), h.d, Nat.le_trans h.b o.size⟩

theorem TwoR.grow_g {jg' : Nat} {xg' : List Value} {vg' : Value} (h : TwoR base jg jm xg xm vg vm X) (o : Only vg.ownBlock.toList X Y) (hat : ∀ b, vg'.ownBlock = some b → vg.ownBlock = some b ∨ X.heap.size ≤ b) (hg : Y.ownsRow base 3 1 vg' jg' xg') : TwoR base jg' jm xg' xm vg' vm Y := by
  refine ⟨hg, ownsRow_only h.m o (fun b hb hm => h.d b (by simpa using hm) hb), fun b hb e => ?_, Nat.le_trans h.b o.size⟩
  rcases hat b hb with h1 | h1
  · exact h.d b h1 e
  · have := (h.m.lt b e).2
    omega

theorem TwoR.grow_m {jm' : Nat} {xm' : List Value} {vm' : Value} (h : TwoR base jg jm xg xm vg vm X) (o : Only vm.ownBlock.toList X Y) (hat : ∀ b, vm'.ownBlock = some b → vm.ownBlock = some b ∨ X.heap.size ≤ b) (hg : Y.ownsRow base 3 1 vm' jm' xm') : TwoR base jg jm' xg xm' vg vm' Y := by
  refine ⟨ownsRow_only h.g o (fun b hb hm => h.d b hb (by simpa using hm)), hg, fun b hb e => ?_, Nat.le_trans h.b o.size⟩
  rcases hat b e with h1 | h1
  · exact h.d b hb h1
  · have := (h.g.lt b hb).2
    omega

theorem TwoR.keep_m (h : TwoR base jg jm xg xm vg vm W) (o : Only vm.ownBlock.toList X Y) {b : Nat} {u : Value} (hb : W.heap.size ≤ b) (hc : ∀ (j : Nat) u', [u][j]? = some u' → X.cell? ((⟨b, 0, none⟩ : Addr).add j) = some u') : ∀ (j : Nat) u', [u][j]? = some u' → Y.cell? ((⟨b, 0, none⟩ : Addr).add j) = some u' := by
  intro j u' hj
  have := hc j u' hj
  rw [Addr.add_lit] at this ⊢
  exact keep_off o (fun hm => by have := (h.m.lt b (by simpa using hm)).2; omega) this

theorem TwoR.keep_g (h : TwoR base jg jm xg xm vg vm W) (o : Only vg.ownBlock.toList X Y) {b : Nat} {u : Value} (hb : W.heap.size ≤ b) (hc : ∀ (j : Nat) u', [u][j]? = some u' → X.cell? ((⟨b, 0, none⟩ : Addr).add j) = some u') : ∀ (j : Nat) u', [u][j]? = some u' → Y.cell? ((⟨b, 0, none⟩ : Addr).add j) = some u' := by
  intro j u' hj
  have := hc j u' hj
  rw [Addr.add_lit] at this ⊢
  exact keep_off o (fun hm => by have := (h.g.lt b (by simpa using hm)).2; omega) this

end

end Go.Proofs.YtpknnamficegbaaGreatDoor

namespace Go.Proofs.YtpknnamficegbaaGreatDoor
open Go.RowKit

set_option maxRecDepth 100000 in
set_option maxHeartbeats 8000000 in
theorem rpool_gens (A : PA) (n hd : Nat) (S : Nat → Sl) (t : Int) (nx : List Int) (fa : Int) (w : World) (H : PoolR w A n S hd t nx fa) :
    Calls Tryz.prog 85 #[.pointer (some ⟨A.p, 0, none⟩), .pointer none] w fun e w' => ∃ vg vm, e = .returned (.tuple #[vg, vm]) ∧ TwoR w.heap.size n n (gensL S n) (marksL S n) vg vm w' ∧ Only [] w w' := by
  have hm := H.many
  obtain ⟨i0, hi0, hz0, hz1, hz2⟩ := info_parts info_int
  have HI0 := Lib.hid (And.intro hi0 (And.intro hz0 (And.intro hz1 hz2)))
  have HH := Lib.hid H
  clear H hi0 hz0 hz1 hz2
  go_enter Tryz.func85, Tryz.ntmps85
  go_wp2_with fail
  go_loopg [6, 7, 8] n (fun g s6 s7 s8 wr => ∃ j : Nat, j + g = n ∧ s8 = .int .i64 ((j : Int) + 1) ∧ TwoR w.heap.size j j (gensL S j) (marksL S j) s6 s7 wr ∧ Only [] w wr)
  case atStart => exact ⟨0, by omega, rfl, ⟨World.ownsRow_nil _ _ _ _, World.ownsRow_nil _ _ _ _, by simp [ApartV, Value.ownBlock], Nat.le_refl _⟩, Only.refl _ _⟩
  case round =>
    obtain ⟨j, hj, rfl, hSt, hO⟩ := hrel
    have hP := HH.out.only hO (by simp)
    have hs0 : wr.cell? ⟨A.p, 0, none⟩ = some (.slice (some ⟨A.sb, 0, none⟩) (n + 1) (n + 1)) := hP.head.cell 0 rfl
    have HJ := Lib.hid hj
    have HST := Lib.hid (And.intro hSt hO)
    by_cases hjn : j < n
    · have hjk : (j : Int) + 1 < (n : Int) + 1 := by omega
      have hj3 : j ≤ n ∧ n ≤ 4096 := by omega
      obtain ⟨hj3, hj4⟩ := hj3
      have htn : ((j : Int) + 1).toNat = j + 1 := by omega
      have hj0 : (0 : Int) ≤ (j : Int) + 1 := by omega
      have g0 := hP.row.slot (j + 1) 0 (by omega) (slot_room (by omega))
      have g1 := hP.row.slot (j + 1) 1 (by omega) (slot_room (by omega))
      rw [show (S (j + 1)).get 0 = (S (j + 1)).gen from rfl, Nat.add_zero] at g0
      rw [show (S (j + 1)).get 1 = (S (j + 1)).mark from rfl] at g1
      have HSG := Lib.hid (gensL_succ S j)
      have HSM := Lib.hid (marksL_succ S j)
      obtain ⟨x0, hx0⟩ : ∃ x, (S (j + 1)).gen = x := ⟨_, rfl⟩
      obtain ⟨x5, hx5⟩ : ∃ x, (S (j + 1)).mark = x := ⟨_, rfl⟩
      rw [hx0] at g0 HSG
      rw [hx5] at g1 HSM
      obtain ⟨xg, hxg⟩ : ∃ q, gensL S j = q := ⟨_, rfl⟩
      obtain ⟨xm, hxm⟩ : ∃ q, marksL S j = q := ⟨_, rfl⟩
      rw [hxg] at hSt HSG
      rw [hxm] at hSt HSM
      have HX0 := Lib.hid hx0
      have HX5 := Lib.hid hx5
      clear hP hj hx0 hx5 HST hxg hxm
      go_upto_block 1 with fail
      go_cut [6, 7] (fun s6 s7 wc => TwoR w.heap.size (j + 1) (j + 1) (xg ++ [.int .i64 x0]) (xm ++ [.int .i64 x5]) s6 s7 wc ∧ Only [] w wc)
      case first =>
        go_upto_region 5 with fail
        go_wp2_with fail
        refine (step_nil _).mono ?_
        rintro e w' ⟨rfl, rfl⟩
        go_upto_region 6 with fail
        have HC : Hid (∀ W, Only [] w W → W.cell? ⟨A.p, 0, none⟩ = some (.slice (some ⟨A.sb, 0, none⟩) (n + 1) (n + 1)) ∧ W.cell? ⟨A.sb, (j + 1) * 7, none⟩ = some (.int .i64 x0) ∧ W.cell? ⟨A.sb, (j + 1) * 7 + 1, none⟩ = some (.int .i64 x5)) := Lib.hid (fun W o => by have hP := HH.out.only o (by simp); have h0 := hP.row.slot (j + 1) 0 (by omega) (slot_room (by omega)); have h1 := hP.row.slot (j + 1) 1 (by omega) (slot_room (by omega)); rw [show (S (j + 1)).get 0 = (S (j + 1)).gen from rfl, Nat.add_zero, HX0.out] at h0; rw [show (S (j + 1)).get 1 = (S (j + 1)).mark from rfl, HX5.out] at h1; exact ⟨hP.head.cell 0 rfl, h0, h1⟩)
        obtain ⟨ag, cg, rfl⟩ := own_slice_any hSt.g
        obtain ⟨am, cm, rfl⟩ := own_slice_any hSt.m
        obtain ⟨hi0, hz0, hz1, hz2⟩ := HI0.out
        have hSt0 := hSt.ext (Only.drew [] wr)
        have o0 : Only [] w wr.drew := hO.trans (Only.drew [] wr)
        have hbs0 := hO.size
        have HML : j + 1 ≤ maxLen := by unfold maxLen; omega
        have HMB : (j + 1) * 8 ≤ 140737488355328 := by omega
        have hcd : ∀ (x : Value) (t : TypeId), ∀ (j : Nat) u, [x][j]? = some u → (wr.drew.alloc (.cells #[x] t)).cell? ((⟨wr.heap.size, 0, none⟩ : Addr).add j) = some u := fun x t => cell_one_new wr.drew x t
        clear hSt hO hs0 g0 g1
        go_region_held3 (fun W => W.cell? ⟨A.p, 0, none⟩ = some (.slice (some ⟨A.sb, 0, none⟩) (n + 1) (n + 1)) ∧ W.cell? ⟨A.sb, (j + 1) * 7, none⟩ = some (.int .i64 x0) ∧ W.cell? ⟨A.sb, (j + 1) * 7 + 1, none⟩ = some (.int .i64 x5))
          (first | with_reducible exact HC.out _ o0 | with_reducible exact HC.out _ (o0.trans (Only.alloc _ _ _)) | with_reducible exact HC.out _ o1 | with_reducible exact HC.out _ (o1.trans (Only.alloc _ _ _)) | with_reducible exact HC.out _ o2)
          (first | (go_at_call 67; refine (load_any ⟨A.sb, (j + 1) * 7, none⟩ x0 _ (HC.out _ o0).2.1).mono ?_; rintro e w' ⟨rfl, rfl⟩) | (go_at_call 67; refine (load_any ⟨A.sb, (j + 1) * 7 + 1, none⟩ x5 _ (HC.out _ o1).2.2).mono ?_; rintro e w' ⟨rfl, rfl⟩) | (refine step_append_at rfl (.tmp 20) (.tmp 29) 29 rfl w.heap.size 3 i0 _ 1 8 Tryz.underlying29 hi0 hz0 hz1 hz2 rfl (by decide) (.slice ag j cg) j xg rfl (hSt0.ext (Only.alloc _ _ _)).g ⟨_, 0, none⟩ 1 1 [.int .i64 x0] rfl rfl (hcd _ _) (fun u hu => by simp at hu; subst hu; rfl) HML HMB (hSt0.ext (Only.alloc _ _ _)).b ?_; intro v5 w5 hown5 hX5 hat5; have hSt1 := (hSt0.ext (Only.alloc _ _ _)).grow_g hX5 hat5 hown5; have o1 := (o0.trans (Only.alloc _ _ _)).past hX5 (fun b hb => Or.inr (hSt0.g.lt b (by simpa using hb)).1)) | (refine step_append_at rfl (.tmp 31) (.tmp 40) 29 rfl w.heap.size 3 i0 _ 1 8 Tryz.underlying29 hi0 hz0 hz1 hz2 rfl (by decide) (.slice am j cm) j xm rfl (hSt1.ext (Only.alloc _ _ _)).m ⟨_, 0, none⟩ 1 1 [.int .i64 x5] rfl rfl (cell_one_new _ _ _) (fun u hu => by simp at hu; subst hu; rfl) HML HMB (hSt1.ext (Only.alloc _ _ _)).b ?_; intro v6 w6 hown6 hX6 hat6; have hSt2 := (hSt1.ext (Only.alloc _ _ _)).grow_m hX6 hat6 hown6; have o2 := (o1.trans (Only.alloc _ _ _)).past hX6 (fun b hb => Or.inr (hSt1.m.lt b (by simpa using hb)).1)))
        all_goals go_wp2_with fail
        all_goals go_meet
        all_goals exact ⟨hSt2, o2⟩
      case rest =>
        obtain ⟨hS2, hO2⟩ := hcut
        rw [← HSG.out, ← HSM.out] at hS2
        have HS2 := Lib.hid (And.intro hS2 hO2)
        clear hS2 hO2 hSt hO
        go_wp2_with fail
        go_roundg (gk - 1)
        case measure => have := HJ.out; omega
        case rel => exact ⟨j + 1, by have := HJ.out; omega, by rw [show ((j + 1 : Nat) : Int) = (j : Int) + 1 from by omega], HS2.out⟩
    · have hjn' : j = n := by omega
      subst hjn'
      clear hj hSt hO
      go_wp2_with fail
      go_ret2
      exact ⟨_, _, rfl, HST.out⟩

end Go.Proofs.YtpknnamficegbaaGreatDoor

