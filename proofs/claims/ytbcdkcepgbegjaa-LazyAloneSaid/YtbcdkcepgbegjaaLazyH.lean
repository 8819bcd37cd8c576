/- A table of Onces: how it is made. Condition: from 1 to 256 places. -/
import Derived.Test.YtbcdkcepgbegjaaLazyG
import Derived.Deep.RegionLaw
import Derived.Deep.CutBlock
namespace Go.Proofs.Ytbcdkcepgbegjaa
open Go.RowKit

/-- A table's place: its number, its Once, the variable that its closure holds. -/
structure TU where
  i : Nat
  tn : Nat
  iv : Nat

def TU.bl (u : TU) : List Nat := [u.tn, u.iv]

/-- The closure of a place. -/
def TU.fn (fb : Nat) (u : TU) : Value := .func (.func 23) #[] #[.pointer (some ⟨fb, 0, none⟩), .pointer (some ⟨u.iv, 0, none⟩)]

structure TU.ok (fb : Nat) (w : World) (u : TU) : Prop where
  once : Blk w u.tn (onceCells (u.fn fb) 0 0 0 0 false) 76
  var : Blk w u.iv #[.int .i64 u.i] 3
  apart : u.tn ≠ u.iv

theorem TU.stable (fb : Nat) : Stable (TU.ok fb) TU.bl := fun w w' u S h o hn =>
  ⟨h.once.only o (hn _ (by simp [TU.bl])), h.var.only o (hn _ (by simp [TU.bl])), h.apart⟩

def tptrs (us : Nat → TU) (k : Nat) : List Value := (List.range k).map fun i => .pointer (some ⟨(us i).tn, 0, none⟩)

theorem tptrs_length (us : Nat → TU) (k : Nat) : (tptrs us k).length = k := by simp [tptrs]

theorem tptrs_snoc (us : Nat → TU) (k : Nat) (u : TU) : tptrs (upU us k u) (k + 1) = tptrs us k ++ [.pointer (some ⟨u.tn, 0, none⟩)] := by
  unfold tptrs
  rw [List.range_succ, List.map_append]
  congr 1
  · refine List.map_congr_left fun i hi => ?_
    rw [upU_other _ _ (by have := List.mem_range.1 hi; omega)]
  · simp [upU_same]

theorem tptrs_at (us : Nat → TU) {k i : Nat} (h : i < k) : (tptrs us k)[i]? = some (.pointer (some ⟨(us i).tn, 0, none⟩)) := by
  simp [tptrs, h]

/-- A table's memory, made behind base. -/
structure TabAt (F : Value) (base fb tb n : Nat) (ow : Nat → Nat) (w : World) (v : Value) (us : Nat → TU) : Prop where
  head : Blk w tb #[v] 86
  row : RowO base ow 1 w 34 v (tptrs us n)
  units : Units (TU.ok fb) TU.bl base n ow w us
  idx : ∀ i, i < n → (us i).i = i
  box : Blk w fb #[F] 48
  lies : At base ow 2 w [tb, fb]
  apart : tb ≠ fb

theorem TabAt.only {F : Value} {base fb tb n : Nat} {ow ow' : Nat → Nat} {w w' : World} {v : Value} {us : Nat → TU} {S : List Nat} (h : TabAt F base fb tb n ow w v us) (o : Only S w w') (h1 : Off S ow 1 w) (h2 : Off S ow 2 w) (h3 : ∀ i, i < n → Off S ow (100 + i) w) (hE : Ext ow ow' w) : TabAt F base fb tb n ow' w' v us :=
  ⟨h.head.only o (h.lies.out h2 _ (by simp)), h.row.only o h1 hE, h.units.only (TU.stable fb) o h3 hE, h.idx, h.box.only o (h.lies.out h2 _ (by simp)), h.lies.ext hE o.size, h.apart⟩

theorem wraps_i64 (n : Int) (h0 : 0 ≤ n) (h1 : n < 2 ^ 63) : IntKind.i64.wrap n = n := by rw [IntKind.wrap_i64]; omega

theorem info_pOnce : (Try.prog.info? 34).map (fun i => (i.zero, i.size, i.bytes)) = some (some (.pointer none), 1, 8) := by kernel_rfl

set_option maxRecDepth 100000 in
set_option maxHeartbeats 800000 in
theorem new_table_bad (n : Int) (f : FuncId) (caps : Array Value) (w : World) (h : n < 1 ∨ 256 < n) :
    Calls Try.prog 8 #[.int .i64 n, .func (.func f) #[] caps] w fun e w' => e = .returned (.tuple #[.pointer none, .int .i64 71]) ∧ Only [] w w' := by
  rcases h with h | h
  · have hd : decide (n < 1) = true := by simpa using h
    go_enter Try.func8, Try.ntmps8
    go_wp2
    go_ret2
    exact ⟨rfl, Only.alloc _ _ _⟩
  · have hd : decide (n < 1) = false := by simp; omega
    have hd2 : decide (256 < n) = true := by simpa using h
    go_enter Try.func8, Try.ntmps8
    go_wp2
    go_ret2
    exact ⟨rfl, Only.alloc _ _ _⟩

theorem TabAt.through {F : Value} {base fb tb k : Nat} {ow : Nat → Nat} {wr w3 w5 : World} {v : Value} {us : Nat → TU} (h : TabAt F base fb tb k ow wr v us) (hO : Only [] wr w3) (hO5 : Only v.ownBlock.toList w3 w5) : Blk w5 tb #[v] 86 :=
  (h.head.only hO (by simp)).only hO5 (h.lies.out (h.row.lies.off (by omega)) _ (by simp))

/-- One place more. -/
theorem TabAt.grow {F : Value} {base fb tb k : Nat} {ow : Nat → Nat} {wr w2 w3 w5 w6 : World} {v v' : Value} {us : Nat → TU} {o iv : Nat} (h : TabAt F base fb tb k ow wr v us) (hO : Only [] wr w2)
    (hiv : Blk w2 iv #[.int .i64 k] 3) (ho : Blk w2 o (onceCells (TU.fn fb ⟨k, o, iv⟩) 0 0 0 0 false) 76) (h1 : wr.heap.size ≤ iv) (h2 : wr.heap.size ≤ o) (h3 : o ≠ iv) (hO3 : Only [] w2 w3)
    (hrow : RowO base (fresh (fresh ow wr (100 + k)) w3 1) 1 w5 34 v' (tptrs us k ++ [.pointer (some ⟨o, 0, none⟩)])) (hO5 : Only v.ownBlock.toList w3 w5) (hw6 : w5.setCell ⟨tb, 0, none⟩ v' = w6) :
    TabAt F base fb tb (k + 1) (fresh (fresh ow wr (100 + k)) w3 1) w6 v' (upU us k ⟨k, o, iv⟩) ∧ Only [tb] w5 w6 := by
  have hE1 := Ext.fresh ow wr (100 + k)
  have hO13 := hO.trans hO3
  have hbase : base ≤ wr.heap.size := by have := h.lies tb (by simp); omega
  have hT3 := h.only (ow' := fresh ow wr (100 + k)) hO13 (Off.nil _ _ _) (Off.nil _ _ _) (fun i _ => Off.nil _ _ _) hE1
  have hE2 := Ext.fresh (fresh ow wr (100 + k)) w3 1
  have hv : At base (fresh ow wr (100 + k)) 1 w3 v.ownBlock.toList := hT3.row.lies
  have hl2 : At base (fresh ow wr (100 + k)) 2 w5 [tb, fb] := hT3.lies.ext (Ext.refl _ _) hO5.size
  have hu3 : At base (fresh ow wr (100 + k)) (100 + k) w3 [o, iv] := by
    intro b hb
    simp at hb
    rcases hb with rfl | rfl
    · exact ⟨by omega, Nat.lt_of_lt_of_le ho.lt hO3.size, fresh_new h2⟩
    · exact ⟨by omega, Nat.lt_of_lt_of_le hiv.lt hO3.size, fresh_new h1⟩
  have hX : Only [tb] w5 w6 := hw6 ▸ Only.setCell _ (by simp) _
  have hT5 := hT3.units.only (TU.stable fb) hO5 (fun i hi => hv.off (by omega)) hE2
  have hl5 := hT3.lies.ext hE2 hO5.size
  have htb : ∀ i, Off [tb] (fresh (fresh ow wr (100 + k)) w3 1) (100 + i) w5 := fun i => (hl5.sub (cs := [tb]) (by simp)).off (by omega)
  have hu : Units (TU.ok fb) TU.bl base k (fresh (fresh ow wr (100 + k)) w3 1) w6 us := hT5.only (TU.stable fb) hX (fun i _ => htb i) (Ext.refl _ _)
  have hou := hv.off (l := 100 + k) (by omega)
  have hun := hu3.out hou
  have hu6 := (hu3.ext hE2 hO5.size)
  have hun6 := hu6.out (htb k)
  have ho6 : Blk w6 o (onceCells (TU.fn fb ⟨k, o, iv⟩) 0 0 0 0 false) 76 := ((ho.only hO3 (by simp)).only hO5 (hun _ (by simp))).only hX (hun6 _ (by simp))
  have hi6 : Blk w6 iv #[.int .i64 k] 3 := ((hiv.only hO3 (by simp)).only hO5 (hun _ (by simp))).only hX (hun6 _ (by simp))
  have hf5 := (hT3.lies.out (hv.off (by omega)))
  refine ⟨⟨?_, ?_, hu.snoc ⟨ho6, hi6, h3⟩ (hu6.ext (Ext.refl _ _) hX.size), ?_, (h.box.only hO13 (by simp)).only hO5 (hf5 _ (by simp)) |>.only hX (by simpa using fun e => h.apart e.symm), hl5.ext (Ext.refl _ _) hX.size, h.apart⟩, hX⟩
  · rw [← hw6]
    exact ((h.head.only hO13 (by simp)).only hO5 (hf5 _ (by simp))).set_same 0 v'
  · rw [tptrs_snoc]
    exact hrow.only hX ((hl5.sub (cs := [tb]) (by simp)).off (by omega)) (Ext.refl _ _)
  · intro i hi
    by_cases hik : i = k
    · subst hik; rw [upU_same]
    · rw [upU_other _ _ hik]; exact h.idx i (by omega)

theorem TabAt.old {F : Value} {base fb tb k : Nat} {ow : Nat → Nat} {w : World} {v : Value} {us : Nat → TU} (h : TabAt F base fb tb k ow w v us) : base ≤ tb ∧ base ≤ w.heap.size ∧ ∀ b, b ∈ v.ownBlock.toList → base ≤ b := by
  have h1 := h.lies tb (by simp)
  exact ⟨h1.1, by omega, fun b hb => (h.row.lies b hb).1⟩

def TablePost (F : Value) (n : Nat) (w : World) (e : Ending) (w' : World) : Prop :=
  ∃ (tb fb : Nat) (v : Value) (ow : Nat → Nat) (us : Nat → TU), e = .returned (.tuple #[.pointer (some ⟨tb, 0, none⟩), .int .i64 0]) ∧ TabAt F w.heap.size fb tb n ow w' v us ∧ Only [] w w'

set_option maxRecDepth 100000 in
set_option maxHeartbeats 4000000 in
theorem new_table (n : Nat) (h1 : 1 ≤ n) (h2 : n ≤ 256) (f : FuncId) (caps : Array Value) (w : World) :
    Calls Try.prog 8 #[.int .i64 n, .func (.func f) #[] caps] w (TablePost (.func (.func f) #[] caps) n w) := by
  have hmf : ∀ (fn : Fn) (first cap : Array Value) (w : World), (Instr.makeFunc fn first cap).run Try.prog w = .ok (.func fn first cap) w := fun _ _ _ _ => rfl
  have hd : decide ((n : Int) < 1) = false := by simp; omega
  have hd2 : decide (256 < (n : Int)) = false := by simp; omega
  obtain ⟨i0, hi0, hz0, hz1, hz2⟩ := info_parts info_pOnce
  go_enter Try.func8, Try.ntmps8
  generalize hF : Value.func (Fn.func f) #[] caps = F
  go_wp2_with fail
  have hsF : w.heap.size + 1 ≠ w.heap.size := by omega
  go_loopg [17] n (fun g s17 wr => ∃ (k : Nat) (ow : Nat → Nat) (us : Nat → TU) (v : Value), k + g = n ∧ s17 = .int .i64 k ∧ TabAt F w.heap.size w.heap.size (w.heap.size + 1) k ow wr v us ∧ Only [] w wr)
  case atStart =>
    refine ⟨0, fun _ => 2, fun _ => ⟨0, 0, 0⟩, .slice none 0 0, by omega, rfl, ⟨?_, RowO.empty _ _ _ _ _, Units.none _ _ _ _ _ _, fun _ h => absurd h (Nat.not_lt_zero _), (Blk.new _ _ _).alloc _, ?_, hsF⟩, (Only.alloc _ _ _).trans (Only.alloc _ _ _)⟩
    · have := Blk.new (w.alloc (.cells #[F] 48)) #[.slice none 0 0] 86
      simpa using this
    · intro b hb
      simp at hb ⊢
      omega
  case round =>
    obtain ⟨k, ow, us, v, hk, rfl, hT, hO⟩ := hrel
    have HT := Lib.hid hT
    have HO := Lib.hid hO
    have HK := Lib.hid hk
    clear hT hO
    by_cases hkn : k < n
    · have hki : (k : Int) < n := by omega
      clear hk
      have hsum : IntKind.i64.wrap ((k : Int) + 1) = (k : Int) + 1 := wraps_i64 _ (by omega) (by omega)
      have HS := Lib.hid hsum
      clear hsum
      go_upto_block 1 with fail
      go_cut [] (fun wc => ∃ (ow' : Nat → Nat) (us' : Nat → TU) (v' : Value), TabAt F w.heap.size w.heap.size (w.heap.size + 1) (k + 1) ow' wc v' us' ∧ Only [] w wc)
      case first =>
        go_upto_region 7 with fail
        refine wp_name (fun w1 => TabAt F w.heap.size w.heap.size (w.heap.size + 1) k ow wr v us ∧ Only [] wr w1 ∧ Blk w1 wr.heap.size #[.int .i64 k] 3 ∧ Hid (w1.heap.size = wr.heap.size + 1)) ⟨HT.out, Only.alloc _ _ _, Blk.new _ _ _, Lib.hid (by simp)⟩ ?_
        clear HT
        rintro w1 ⟨hT, hX1, hI1, HZ⟩
        have HT := Lib.hid hT
        have HI := Lib.hid hI1
        have HX := Lib.hid hX1
        have ht1 : w1.cell? ⟨w.heap.size + 1, 0, none⟩ = some v := (hT.head.only hX1 (by simp)).cell 0 rfl
        have HR := Lib.hid (hT.row.slice)
        clear hT hI1 hX1
        have hafter : ∀ w2, w1.drew.alloc (.cells (onceCells (.func (.func 23) #[] #[.pointer (some ⟨w.heap.size, 0, none⟩), .pointer (some ⟨wr.heap.size, 0, none⟩)]) 0 0 0 0 false) 76) = w2 →
            Hid (Only [] wr w2) ∧ Hid (Blk w2 w1.heap.size (onceCells (TU.fn w.heap.size ⟨k, w1.heap.size, wr.heap.size⟩) 0 0 0 0 false) 76) ∧ Hid (Blk w2 wr.heap.size #[.int .i64 k] 3) ∧ w2.cell? ⟨w.heap.size + 1, 0, none⟩ = some v ∧ w.heap.size + 1 < w2.heap.size := by
          rintro w2 rfl
          have hx : Only [] w1 (w1.drew.alloc (.cells (onceCells (.func (.func 23) #[] #[.pointer (some ⟨w.heap.size, 0, none⟩), .pointer (some ⟨wr.heap.size, 0, none⟩)]) 0 0 0 0 false) 76)) := (Only.drew _ _).trans (Only.alloc _ _ _)
          exact ⟨Lib.hid (HX.out.trans hx), Lib.hid (Blk.new w1.drew _ _), Lib.hid (HI.out.only hx (by simp)), ((HT.out.head.only HX.out (by simp)).only hx (by simp)).cell 0 rfl, ((HT.out.head.only HX.out (by simp)).only hx (by simp)).lt⟩
        have HA := Lib.hid hafter
        clear hafter
        have htr : w1.drew.cell? ⟨w.heap.size + 1, 0, none⟩ = some v := ht1
        clear ht1
        go_region_law (first | (refine RowO.appendStep rfl (.tmp 24) (.tmp 27) 25 rfl w.heap.size (fresh ow wr (100 + k)) 1 34 i0 _ 8 Try.underlying25 hi0 hz0 hz1 hz2 rfl _ _ rfl ((HT.out.row.only (hx2.out.trans (Only.alloc [] _ _)) (Off.nil _ _ _) (Ext.fresh _ _ _))) ⟨w2.heap.size, 0, none⟩ 1 (.pointer (some ⟨w1.heap.size, 0, none⟩)) rfl ((Blk.new _ _ _).cell 0 rfl) rfl (by rw [tptrs_length]; unfold maxLen; omega) (by rw [tptrs_length]; omega) (by have := HT.out.old; have := hx2.out.size; simp; omega) ?_; intro v' w5 hown5 hO5; have HW5 := Lib.hid hown5; have HO5 := Lib.hid hO5; have hb5 := HT.out.through (hx2.out.trans (Only.alloc [] _ _)) hO5; have ct5 : w5.cell? ⟨w.heap.size + 1, 0, none⟩ = some v := hb5.cell 0 rfl; have cf5 := hb5.free 0; obtain ⟨ad5, cap5, rfl⟩ := hown5.slice' (m := k + 1) (by simp [tptrs_length]); clear hown5 hO5 hb5) | (go_simp; go_at_call 5; (with_reducible refine (new_once _ _ _).mono ?_); rintro e w2 ⟨rfl, hw2⟩; obtain ⟨hx2, ho2, hi2, hc2, hl2⟩ := HA.out w2 hw2; clear hw2))
        all_goals (go_wp2_with fail; go_meet)
        all_goals
          refine ⟨_, _, _, (HT.out.grow hx2.out hi2.out ho2.out (Nat.le_refl _) (by have := HZ.out; omega) (by have := HZ.out; omega) (Only.alloc [] _ _) HW5.out HO5.out rfl).1, ?_⟩
          have h6 := (HT.out.grow hx2.out hi2.out ho2.out (Nat.le_refl _) (by have := HZ.out; omega) (by have := HZ.out; omega) (Only.alloc [] _ _) HW5.out HO5.out rfl).2
          have hb := HT.out.old
          exact (((HO.out.trans hx2.out).trans (Only.alloc [] _ _)).past HO5.out (fun b hb' => Or.inr (hb.2.2 b hb'))).past h6 (by simp)
      case rest =>
        obtain ⟨ow', us', v', hT, hO⟩ := hcut
        have HT2 := Lib.hid hT
        have HO2 := Lib.hid hO
        clear hT hO
        go_wp2_with fail
        go_roundg (gk - 1)
        case measure => have := HK.out; omega
        case rel => exact ⟨k + 1, ow', us', v', by have := HK.out; omega, by go_num, HT2.out, HO2.out⟩
    · have hkn' : k = n := by omega
      subst hkn'
      clear hk
      go_wp2_with fail
      go_ret2
      exact ⟨_, _, _, _, _, rfl, HT.out, HO.out⟩

end Go.Proofs.Ytbcdkcepgbegjaa
