/- A pool's Slots and Free as calls. Condition: the pool stands in memory as PoolAt says. -/
import Derived.Deep.RegionLaw
import Derived.Test.YtpknnamficegbaaGreatDoorCPoolY
import Derived.Test.YtpknnamficegbaaGreatDoorCPlaces
set_option linter.unusedVariables false
set_option linter.unusedSimpArgs false
set_option linter.unusedSectionVars false
set_option linter.unnecessarySimpa false
namespace Go.Proofs.YtpknnamficegbaaGreatDoor
open Go.RowKit

set_option maxHeartbeats 400000 in
theorem pool_free (A : PA) (n : Nat) (S : Nat → Sl) (t : Int) (fs : List Nat) (fa : Int) (w : World) (H : PoolAt w A n S t fs fa) :
    Calls Tryz.prog 34 #[.pointer (some ⟨A.p, 0, none⟩)] w fun e w' => ∃ v, e = .returned v ∧ w'.ownsRow w.heap.size 3 1 v fs.length (fs.map fun x => Value.int .i64 (x : Nat)) ∧ Only [] w w' := by
  have hc : w.cell? ⟨A.p, 1, none⟩ = some (.pointer (some ⟨A.pb, 0, none⟩)) := H.head.cell 1 rfl
  obtain ⟨nx, hp⟩ := H.pile
  have HPL := Lib.hid (pile_places A.pb A.nb n t fs nx w hp)
  clear hp H
  go_enter Tryz.func34, Tryz.ntmps34
  go_wp2_with fail
  refine HPL.out.mono ?_
  rintro e w1 ⟨v, rfl, hown, hO⟩
  have HO := Lib.hid hown
  clear hown
  go_wp2_with fail
  go_ret
  exact ⟨_, rfl, HO.out, hO⟩

/-- append to a slice of the call's own, as one step of a region that draws. -/
theorem step_append_own {P : Program} {ops : Array Oper} {o : Oper} {a : Act} {w : World} {K : Act → World → Prop} {Q : Exit → Act → World → Prop} {E : Prop} (hgd : o.guard = none) (s x : Operand) (t : TypeId)
    (ho : o.op = .call { callee := .builtin .append, args := #[s, x], argTypes := #[t, t] })
    (base : Nat) (e : TypeId) (i : TypeInfo) (z : Value) (size bytes : Nat) (ht : P.underlying t = some (.slice e)) (hi : P.info? e = some i) (hz : i.zero = some z)
    (hsize : i.size = size) (hby : i.bytes = bytes) (hzs : z.cells.size = size) (hsz : 0 < size)
    (v : Value) (n : Nat) (xs : List Value) (hs : a.eval s = v) (hown : w.ownsRow base e size v n xs)
    (ad : Addr) (m c : Nat) (news : List Value) (hx : a.eval x = .slice (some ad) m c) (hl : news.length = m * size) (hnews : ∀ j u, news[j]? = some u → w.cell? (ad.add j) = some u) (h1 : ∀ u ∈ news, u.oneCell' = true)
    (h63 : n + m ≤ maxLen) (hbytes : (n + m) * bytes ≤ 140737488355328) (hbase : base ≤ w.heap.size)
    (h : ∀ v' w', w'.ownsRow base e size v' (n + m) (xs ++ news) → w.grownBy w' v.ownBlock → K (a.put o.dst v') w') :
    if Region.wanted o (yielded ops a.tmps) = true then Oper.wp P o a w K Q else E := by
  have hw : Region.wanted o (yielded ops a.tmps) = true := by simp [Region.wanted, hgd]
  rw [if_pos hw]
  exact wp_append_own w s x t ho base e i z size bytes ht hi hz hsize hby hzs hsz v n xs hs hown ad m c news hx hl hnews h1 h63 hbytes hbase fun v' w' h2 h3 _ => h v' w' h2 h3

/-- What Slots tells of a slot: seven cells. -/
def slotCells (s : Sl) : List Value := [.int .i64 s.gen, .int .i64 s.a, .int .i64 s.b, .int .i64 s.c, .int .i64 s.d, .int .i64 s.mark, .int .i64 s.link]
def slotsCells (S : Nat → Sl) (k : Nat) : List Value := (List.range k).flatMap fun j => slotCells (S (j + 1))

theorem slotsCells_succ (S : Nat → Sl) (k : Nat) : slotsCells S (k + 1) = slotsCells S k ++ slotCells (S (k + 1)) := by
  simp [slotsCells, List.range_succ]
theorem slotsCells_length (S : Nat → Sl) : ∀ k, (slotsCells S k).length = k * 7
  | 0 => rfl
  | k + 1 => by rw [slotsCells_succ, List.length_append, slotsCells_length S k]; simp [slotCells]; omega

theorem info_Slot : (Tryz.prog.info? 64).map (fun i => (i.zero, i.size, i.bytes)) = some (some (.agg #[.int .i64 0, .int .i64 0, .int .i64 0, .int .i64 0, .int .i64 0, .int .i64 0, .int .i64 0]), 7, 56) := by kernel_rfl

theorem cells_seven (w : World) (a b c d e f g : Value) (T : TypeId) : ∀ j u, [a, b, c, d, e, f, g][j]? = some u → (w.alloc (.cells #[a, b, c, d, e, f, g] T)).cell? ((⟨w.heap.size, 0, none⟩ : Addr).add j) = some u := by
  intro j u hu
  rw [Addr.add_lit]
  have := (Blk.new w #[a, b, c, d, e, f, g] T).cell j (v := u) (by simpa using hu)
  simpa using this

set_option maxRecDepth 100000 in
set_option maxHeartbeats 1600000 in
theorem pool_slots (A : PA) (n : Nat) (S : Nat → Sl) (t : Int) (fs : List Nat) (fa : Int) (w : World) (H : PoolAt w A n S t fs fa) :
    Calls Tryz.prog 14 #[.pointer (some ⟨A.p, 0, none⟩)] w fun e w' => ∃ v, e = .returned v ∧ w'.ownsRow w.heap.size 64 7 v n (slotsCells S n) ∧ Only [] w w' := by
  have hm := H.many
  obtain ⟨i0, hi0, hz0, hz1, hz2⟩ := info_parts info_Slot
  have HH := Lib.hid H
  clear H
  go_enter Tryz.func14, Tryz.ntmps14
  go_wp2_with fail
  go_loopg [3, 4] n (fun g s3 s4 wr => ∃ k : Nat, k + g = n ∧ s4 = .int .i64 ((k : Int) + 1) ∧ wr.ownsRow w.heap.size 64 7 s3 k (slotsCells S k) ∧ Only [] w wr)
  case atStart => exact ⟨0, by omega, rfl, World.ownsRow_nil _ _ _ _, Only.refl _ _⟩
  case round =>
    obtain ⟨k, hk, rfl, hown, hO⟩ := hrel
    have hP := HH.out.only hO (by simp)
    have hs0 : wr.cell? ⟨A.p, 0, none⟩ = some (.slice (some ⟨A.sb, 0, none⟩) (n + 1) (n + 1)) := hP.head.cell 0 rfl
    have hsz := hO.size
    have HK := Lib.hid hk
    by_cases hkn : k < n
    · have hki : (k : Int) + 1 < (n : Int) + 1 := by omega
      have hk2 : k ≤ n ∧ n ≤ 4096 := by omega
      obtain ⟨hk3, hk4⟩ := hk2
      clear hk
      have htn : ((k : Int) + 1).toNat = k + 1 := by omega
      have hsn := Lib.hid (slotsCells_succ S k)
      generalize slotsCells S k = xs at hown hsn
      go_upto_block 1 with fail
      go_cut [3] (fun s3 wc => wc.ownsRow w.heap.size 64 7 s3 (k + 1) (xs ++ slotCells (S (k + 1))) ∧ Only [] w wc)
      case first =>
        go_upto_region 6 with fail
        have hr := hP.row
        have g0 : wr.drew.cell? ⟨A.sb, (k + 1) * 7, none⟩ = some (.int .i64 (S (k + 1)).gen) := hr.slot (k + 1) 0 (by omega) (slot_room (by omega))
        have HR := Lib.hid (hr.only (Only.drew [] wr) (by simp))
        have HPP := Lib.hid hP
        have HOWN := Lib.hid hown
        have HOO := Lib.hid hO
        clear hr hP hown hO
        go_region_law (first | (refine step_append_own rfl (.tmp 21) (.tmp 37) 58 rfl w.heap.size 64 i0 _ 7 56 Tryz.underlying58 hi0 hz0 hz1 hz2 rfl (by decide) _ _ _ rfl (hown2.alloc _) ⟨w2.heap.size, 0, none⟩ 1 1 (slotCells (S (k + 1))) rfl rfl (cells_seven _ _ _ _ _ _ _ _ _) (fun u hu => by simp [slotCells] at hu; rcases hu with rfl | rfl | rfl | rfl | rfl | rfl | rfl <;> rfl) (by unfold maxLen; omega) (by omega) (by simp; omega) ?_; intro v' w5 hown5 hg5) | (go_simp; go_at_call 63; (with_reducible refine (slot_holds A.sb _ (k + 1) S wr.drew HR.out (slot_room (by omega))).mono ?_); rintro e w2 ⟨rfl, hX2⟩; have hown2 := HOWN.out.drew.kept (row := none) (w' := w2) ⟨hX2.os, hX2.tape, hX2.output, hX2.size, fun k hk _ => hX2.block k hk (by simp)⟩ (by cases hv : u3.ownBlock <;> simp); have m1 : w2.cell? ⟨A.sb, (k + 1) * 7 + 1, none⟩ = some (.int .i64 (S (k + 1)).mark) := (HR.out.only hX2 (by simp)).slot (k + 1) 1 (by omega) (slot_room (by omega)); have m2 : w2.cell? ⟨A.sb, (k + 1) * 7 + 2, none⟩ = some (.int .i64 (S (k + 1)).link) := (HR.out.only hX2 (by simp)).slot (k + 1) 2 (by omega) (slot_room (by omega)); have hsz2 : w.heap.size ≤ w2.heap.size := Nat.le_trans hsz hX2.size) | (go_simp; go_at_call 67; ((first | (with_reducible refine (load_any ⟨A.sb, (k + 1) * 7, none⟩ _ wr.drew g0).mono ?_) | (with_reducible refine (load_any ⟨A.sb, (k + 1) * 7 + 1, none⟩ _ w2 m1).mono ?_) | (with_reducible refine (load_any ⟨A.sb, (k + 1) * 7 + 2, none⟩ _ w2 m2).mono ?_)); rintro e w' ⟨rfl, rfl⟩)))
        all_goals (go_wp2_with fail; go_meet)
        all_goals exact ⟨hown5, ((HOO.out.trans (Only.drew [] wr)).trans hX2).appended hown2 (Nat.le_refl _) hg5⟩
      case rest =>
        obtain ⟨hown2, hO2⟩ := hcut
        rw [← hsn.out] at hown2
        have HO2 := Lib.hid hown2
        clear hown2 hown hO hP hsn
        go_wp2_with fail
        go_roundg (gk - 1)
        case measure => have := HK.out; omega
        case rel => exact ⟨k + 1, by have := HK.out; omega, by rw [show ((k + 1 : Nat) : Int) = (k : Int) + 1 from by omega], HO2.out, hO2⟩
    · have hkn' : k = n := by omega
      subst hkn'
      clear hk
      have HOW := Lib.hid hown
      clear hown
      go_wp2_with fail
      go_ret
      exact ⟨_, rfl, HOW.out, hO⟩

end Go.Proofs.YtpknnamficegbaaGreatDoor

