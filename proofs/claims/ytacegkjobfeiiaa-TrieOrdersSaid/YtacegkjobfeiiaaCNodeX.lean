/- Keys, places, spans as calls. No condition but those that each contract names. · The place at which two keys part, as a call. Conditions: both are keys, and unlike. · A map's nodes in a pool: shaped, read, root, leftOf, rightOf, has, count as calls. Conditions: the pool stands in memory as PoolAt says, the map in it as Rep says. · A map's nodes in a pool: read, root, leftOf, rightOf, has, count as calls. Conditions: the pool stands in memory as PoolAt says, the map in it as Rep says. · A map's nodes in a pool: root, leftOf, rightOf, has, count as calls. Conditions: the pool stands in memory as PoolAt says, the map in it as Rep says. · Slots taken one behind the other, given back; a tree stays where its slots stay. Plain laws: no program. · Ways are short. Plain laws: no program. · Nodes made in a free place; a way made anew, step by step. Plain laws: no program. · A map's nodes in a pool: rightOf as a call. Conditions: the pool stands in memory as PoolAt says, the map in it as Rep says. · A map's nodes: has, count as calls. Conditions: the node's numbers are keys and a place. · Slots given back by a map: Undo as a call. Conditions: the pool stands in memory as PoolAt says, each handle is of a slot in use, each slot once. -/
import Derived.OwnWalk
import Derived.WalkLawsBesides
import Derived.Test.YtacegkjobfeiiaaCPlain
import Derived.Test.YtacegkjobfeiiaaCPoolY
import Derived.Test.YtacegkjobfeiiaaCSlots
set_option linter.unusedVariables false
set_option linter.unusedSimpArgs false
set_option linter.unusedSectionVars false
set_option linter.unnecessarySimpa false
namespace Go.Proofs.Ytacegkjobfeiiaa
open Go.RowKit

theorem w64 (n : Int) (h : -9223372036854775808 ≤ n ∧ n ≤ 9223372036854775807) : wrap64 n = n := by unfold wrap64; omega

theorem pw_cast (p : Nat) : (2 : Int) ^ p = pw p := by unfold pw; exact (Int.natCast_pow 2 p).symm

theorem pw_le {p : Nat} (h : p ≤ 33) : pw p ≤ 8589934592 := by
  unfold pw
  have : 2 ^ p ≤ 2 ^ 33 := Nat.pow_le_pow_right (by decide) h
  omega

theorem shl_two (T : TypeId) (p : Nat) (hp : p < 32) (w : World) : (binOp .shl T (.int .i64 2) (.int .i64 p)).run Try.prog w = .ok (.int .i64 (pw (p + 1))) w := by
  have h1 : min ((p : Int).toNat) 64 = p := by simp; omega
  have h2 : IntKind.i64.wrap (pw (p + 1)) = pw (p + 1) := wraps_i64 _ (Int.le_of_lt (pw_pos _)) (by have := pw_le (p := p + 1) (by omega); omega)
  have h3 : (2 : Int) * 2 ^ p = pw (p + 1) := by rw [pw_cast, pw_succ]
  have h4 : ¬ (p : Int) < 0 := by omega
  simp [binOp, h3, h2]

theorem shl_one (T : TypeId) (p : Nat) (hp : p < 32) (w : World) : (binOp .shl T (.int .i64 1) (.int .i64 p)).run Try.prog w = .ok (.int .i64 (pw p)) w := by
  have h2 : IntKind.i64.wrap (pw p) = pw p := wraps_i64 _ (Int.le_of_lt (pw_pos _)) (by have := pw_le (p := p) (by omega); omega)
  have h3 : (1 : Int) * 2 ^ p = pw p := by rw [pw_cast, Int.one_mul]
  have h4 : ¬ (p : Int) < 0 := by omega
  simp [binOp, pw_cast, h2]

def isK (k : Int) : Bool := decide (0 ≤ k ∧ k ≤ 4294967295)

set_option maxHeartbeats 400000 in
theorem trie_key (k : Int) (w : World) : Calls Try.prog 41 #[.int .i64 k] w fun e w' => e = .returned (.bool (isK k)) ∧ w = w' := by
  by_cases h0 : 0 ≤ k
  · by_cases h1 : k ≤ 4294967295
    · go_enter Try.func41, Try.ntmps41
      go_wp2
      go_ret
      exact ⟨by simp [isK] <;> omega, rfl⟩
    · have h2 : decide (k ≤ 4294967295) = false := by simpa using h1
      go_enter Try.func41, Try.ntmps41
      go_wp2
      go_ret
      exact ⟨by simp [isK] <;> omega, rfl⟩
  · go_enter Try.func41, Try.ntmps41
    go_wp2
    go_ret
    exact ⟨by simp [isK] <;> omega, rfl⟩

set_option maxHeartbeats 400000 in
theorem word_isKey (k : Int) (w : World) : Calls Try.prog 91 #[.int .i64 k] w fun e w' => e = .returned (.bool (isK k)) ∧ w = w' := by
  by_cases h0 : 0 ≤ k
  · by_cases h1 : k ≤ 4294967295
    · go_enter Try.func91, Try.ntmps91
      go_wp2
      go_ret
      exact ⟨by simp [isK] <;> omega, rfl⟩
    · have h2 : decide (k ≤ 4294967295) = false := by simpa using h1
      go_enter Try.func91, Try.ntmps91
      go_wp2
      go_ret
      exact ⟨by simp [isK] <;> omega, rfl⟩
  · go_enter Try.func91, Try.ntmps91
    go_wp2
    go_ret
    exact ⟨by simp [isK] <;> omega, rfl⟩

set_option maxHeartbeats 400000 in
theorem trie_none (e0 : Int) (w : World) : Calls Try.prog 42 #[.pointer none, .int .i64 e0] w fun e w' => e = .returned (.int .i64 e0) ∧ w = w' := by
  go_enter Try.func42, Try.ntmps42
  go_wp2_with fail
  refine (step_nil _).mono ?_
  rintro e w' ⟨rfl, rfl⟩
  go_wp2_with fail
  go_ret
  exact ⟨rfl, rfl⟩

/-- An inner node's value. -/
def innerV (p : Nat) (f l r c : Int) : Value := .agg #[.int .i64 p, .int .i64 f, .int .i64 l, .int .i64 r, .int .i64 c]

set_option maxHeartbeats 800000 in
theorem inner_half (p : Nat) (f l r c : Int) (hp : p < 32) (hf : 0 ≤ f ∧ f ≤ 4294967295) (w : World) :
    Calls Try.prog 63 #[innerV p f l r c] w fun e w' => e = .returned (.int .i64 (f + pw p)) ∧ Only [] w w' := by
  have hw1 : wrap64 ((2 : Int) ^ p) = pw p := by rw [pw_cast]; exact w64 _ (by have h1 := pw_pos p; have h2 := pw_le (p := p) (by omega); omega)
  have hp0 := pw_pos p
  have hp1 := pw_le (p := p) (by omega)
  obtain ⟨hf0, hf1⟩ := hf
  have hsum : wrap64 (f + pw p) = f + pw p := w64 _ (by omega)
  have hz : decide ((p : Int) < 0) = false := by simp
  unfold innerV
  go_enter Try.func63, Try.ntmps63
  go_wp2_with fail
  refine wp_name (fun w1 => Blk w1 w.heap.size #[.int .i64 p, .int .i64 f, .int .i64 l, .int .i64 r, .int .i64 c] 135 ∧ Only [] w w1) ⟨Blk.new _ _ _, Only.alloc _ _ _⟩ ?_
  rintro w1 ⟨hB, hO⟩
  have b0 := hB.cell 0 rfl
  have b1 := hB.cell 1 rfl
  generalize w.heap.size = ib at *
  have HO := Lib.hid hO
  clear hO hB
  go_quiet (fail)
  go_wp2_with fail
  go_ret
  exact ⟨rfl, HO.out.trans (Only.drewN [] _ _)⟩

set_option maxHeartbeats 800000 in
theorem inner_span (p : Nat) (f l r c : Int) (hp : p < 32) (hf : 0 ≤ f ∧ f ≤ 4294967295) (w : World) :
    Calls Try.prog 85 #[innerV p f l r c] w fun e w' => e = .returned (.tuple #[.int .i64 f, .int .i64 (f + pw (p + 1) - 1)]) ∧ Only [] w w' := by
  have hw1 : wrap64 (2 * (2 : Int) ^ p) = pw (p + 1) := by rw [pw_cast, ← pw_succ]; exact w64 _ (by have h1 := pw_pos (p + 1); have h2 := pw_le (p := p + 1) (by omega); omega)
  have hp0 := pw_pos (p + 1)
  have hp1 := pw_le (p := p + 1) (by omega)
  obtain ⟨hf0, hf1⟩ := hf
  have hsum : wrap64 (f + pw (p + 1)) = f + pw (p + 1) := w64 _ (by omega)
  have hsum2 : wrap64 (f + pw (p + 1) - 1) = f + pw (p + 1) - 1 := w64 _ (by omega)
  unfold innerV
  go_enter Try.func85, Try.ntmps85
  go_wp2_with fail
  refine wp_name (fun w1 => Blk w1 w.heap.size #[.int .i64 p, .int .i64 f, .int .i64 l, .int .i64 r, .int .i64 c] 135 ∧ Only [] w w1) ⟨Blk.new _ _ _, Only.alloc _ _ _⟩ ?_
  rintro w1 ⟨hB, hO⟩
  have b0 := hB.cell 0 rfl
  have b1 := hB.cell 1 rfl
  generalize w.heap.size = ib at *
  have HO := Lib.hid hO
  clear hO hB
  go_quiet (fail)
  go_wp2_with fail
  go_ret2
  exact ⟨rfl, HO.out.trans (Only.drewN [] _ _)⟩

set_option maxHeartbeats 800000 in
theorem leaf_span (k v : Int) (w : World) :
    Calls Try.prog 116 #[.agg #[.int .i64 k, .int .i64 v]] w fun e w' => e = .returned (.tuple #[.int .i64 k, .int .i64 k]) ∧ Only [] w w' := by
  go_enter Try.func116, Try.ntmps116
  go_wp2_with fail
  refine wp_name (fun w1 => Blk w1 w.heap.size #[.int .i64 k, .int .i64 v] 129 ∧ Only [] w w1) ⟨Blk.new _ _ _, Only.alloc _ _ _⟩ ?_
  rintro w1 ⟨hB, hO⟩
  have b0 := hB.cell 0 rfl
  generalize w.heap.size = ib at *
  have HO := Lib.hid hO
  clear hO hB
  go_quiet (fail)
  go_wp2_with fail
  go_ret2
  exact ⟨rfl, HO.out.trans (Only.drewN [] _ _)⟩

/-- The numbers' bits that part. -/
def xr (a b : Int) : Nat := a.toNat ^^^ b.toNat

theorem xor_i64 (a b : Int) (ha : 0 ≤ a ∧ a ≤ 4294967295) (hb : 0 ≤ b ∧ b ≤ 4294967295) : bits .xor .i64 a b = (xr a b : Int) ∧ xr a b < 4294967296 := by
  obtain ⟨A, rfl⟩ : ∃ A : Nat, a = A := ⟨a.toNat, by omega⟩
  obtain ⟨B, rfl⟩ : ∃ B : Nat, b = B := ⟨b.toNat, by omega⟩
  have hx : A ^^^ B < 2 ^ 32 := Nat.xor_lt_two_pow (by omega) (by omega)
  refine ⟨?_, by unfold xr; simpa using hx⟩
  simp only [bits, xr, BitVec.ofInt_natCast, BitVec.toNat_xor, BitVec.toNat_ofNat, Int.toNat_natCast]
  rw [Nat.mod_eq_of_lt (show A < 2 ^ IntKind.i64.bits by simp [IntKind.bits]; omega), Nat.mod_eq_of_lt (show B < 2 ^ IntKind.i64.bits by simp [IntKind.bits]; omega)]
  exact wraps_i64 _ (by omega) (by omega)

theorem xor_zero {a b : Nat} (h : a ^^^ b = 0) : a = b := by
  have h2 : (a ^^^ b) ^^^ b = 0 ^^^ b := by rw [h]
  rwa [Nat.xor_assoc, Nat.xor_self, Nat.xor_zero, Nat.zero_xor] at h2

theorem xr_plc {a b : Int} (ha : 0 ≤ a ∧ a ≤ 4294967295) (hb : 0 ≤ b ∧ b ≤ 4294967295) {p : Nat} (h1 : xr a b / 2 ^ (p + 1) = 0) (h2 : xr a b / 2 ^ p ≠ 0) : Plc a b p := by
  obtain ⟨A, rfl⟩ : ∃ A : Nat, a = A := ⟨a.toNat, by omega⟩
  obtain ⟨B, rfl⟩ : ∃ B : Nat, b = B := ⟨b.toNat, by omega⟩
  unfold xr at h1 h2
  simp only [Int.toNat_natCast] at h1 h2
  have e : ∀ m, (A ^^^ B) / 2 ^ m = (A / 2 ^ m) ^^^ (B / 2 ^ m) := fun m => by
    rw [← Nat.shiftRight_eq_div_pow, ← Nat.shiftRight_eq_div_pow, ← Nat.shiftRight_eq_div_pow, Nat.shiftRight_xor_distrib]
  rw [e] at h1 h2
  refine ⟨?_, fun h => h2 ?_⟩
  · have : A / 2 ^ (p + 1) = B / 2 ^ (p + 1) := xor_zero h1
    unfold pw
    rw [← Int.natCast_ediv, ← Int.natCast_ediv, this]
  · unfold pw at h
    rw [← Int.natCast_ediv, ← Int.natCast_ediv] at h
    have : A / 2 ^ p = B / 2 ^ p := by omega
    rw [this, Nat.xor_self]

end Go.Proofs.Ytacegkjobfeiiaa

namespace Go.Proofs.Ytacegkjobfeiiaa
open Go.RowKit

theorem div_pow_add (X m d : Nat) : X / 2 ^ (m + d) = X / 2 ^ m / 2 ^ d := by rw [Nat.pow_add, Nat.div_div_eq_div_mul]

theorem place_up {X m : Nat} (hX : X < 4294967296) (h : 256 ≤ X / 2 ^ m) : m ≤ 23 := by
  by_cases hm : m ≤ 23
  · exact hm
  · exfalso
    obtain ⟨d, rfl⟩ : ∃ d, m = 24 + d := ⟨m - 24, by omega⟩
    rw [div_pow_add] at h
    have h1 : X / 2 ^ 24 < 256 := by omega
    have h2 := Nat.div_le_self (X / 2 ^ 24) (2 ^ d)
    omega

theorem place_up1 {X m : Nat} (hX : X < 4294967296) (h : 1 ≤ X / 2 ^ m) : m ≤ 31 := by
  by_cases hm : m ≤ 31
  · exact hm
  · exfalso
    obtain ⟨d, rfl⟩ : ∃ d, m = 32 + d := ⟨m - 32, by omega⟩
    rw [div_pow_add] at h
    have h1 : X / 2 ^ 32 = 0 := by omega
    rw [h1, Nat.zero_div] at h
    omega

set_option maxHeartbeats 1600000 in
theorem word_place (a b : Int) (ha : 0 ≤ a ∧ a ≤ 4294967295) (hb : 0 ≤ b ∧ b ≤ 4294967295) (hne : a ≠ b) (w : World) :
    Calls Try.prog 72 #[.int .i64 a, .int .i64 b] w fun e w' => (∃ p : Nat, e = .returned (.tuple #[.int .i64 p, .int .i64 0]) ∧ Plc a b p) ∧ w = w' := by
  obtain ⟨hx, hX⟩ := xor_i64 a b ha hb
  have HPL := Lib.hid (fun p => xr_plc (p := p) ha hb)
  have hX0 : xr a b ≠ 0 := fun h => by
    unfold xr at h
    have := xor_zero h
    omega
  have ka : isK a = true := by simp [isK]; exact ha
  have kb : isK b = true := by simp [isK]; exact hb
  have HKA := Lib.hid (fun w => word_isKey a w)
  have HKB := Lib.hid (fun w => word_isKey b w)
  rw [ka] at HKA
  rw [kb] at HKB
  generalize xr a b = X at *
  have HX0 := Lib.hid hX0
  have HX := Lib.hid hX
  clear ha hb hne hX0 ka kb hX
  go_enter Try.func72, Try.ntmps72
  go_wp2_with fail
  refine (HKA.out _).mono ?_
  rintro e w' ⟨rfl, rfl⟩
  go_wp2_with fail
  refine (HKB.out _).mono ?_
  rintro e w' ⟨rfl, rfl⟩
  go_wp2_with fail
  go_loopg [6, 7] X (fun g s6 s7 wr => wr = w ∧ ∃ m x : Nat, X / 2 ^ m = x ∧ x ≤ g ∧ s6 = .int .i64 ((m : Int) - 1) ∧ s7 = .int .i64 x ∧ (m = 0 ∨ X / 2 ^ (m - 1) ≠ 0))
  case atStart => exact ⟨rfl, 0, X, by simp, Nat.le_refl _, rfl, rfl, Or.inl rfl⟩
  case round =>
    obtain ⟨rfl, m, x, hm, hg, rfl, rfl, hz⟩ := hrel
    have HM := Lib.hid hm
    have HG := Lib.hid hg
    have HZ := Lib.hid hz
    clear hm hg hz
    by_cases hx2 : 256 ≤ x
    · have hxi : (256 : Int) ≤ x := by omega
      have hm23 : m ≤ 23 := place_up HX.out (by rw [HM.out]; exact hx2)
      have hxb : x ≤ 4294967295 := by have h1 := Nat.div_le_self X (2 ^ m); have h2 := HM.out; have h3 := HX.out; omega
      go_wp2_with fail
      go_roundg (x / 256)
      case measure => have := HG.out; omega
      case rel =>
        refine ⟨rfl, m + 8, x / 256, by rw [div_pow_add, HM.out], Nat.le_refl _, by rw [show ((m + 8 : Nat) : Int) - 1 = (m : Int) - 1 + 8 by omega], by rw [Int.natCast_ediv]; rfl, Or.inr ?_⟩
        rw [show m + 8 - 1 = m + 7 by omega, div_pow_add, HM.out]
        have : 2 ≤ x / 2 ^ 7 := by omega
        omega
    · have hxi : decide ((256 : Int) ≤ x) = false := by simp; omega
      go_wp2_with fail
      clear hxi
      go_loopg [6, 7] x (fun g s6 s7 wr' => wr' = wr ∧ ∃ m x : Nat, X / 2 ^ m = x ∧ x ≤ g ∧ x < 256 ∧ s6 = .int .i64 ((m : Int) - 1) ∧ s7 = .int .i64 x ∧ (m = 0 ∨ X / 2 ^ (m - 1) ≠ 0))
      case atStart => exact ⟨rfl, m, x, HM.out, Nat.le_refl _, by omega, rfl, rfl, HZ.out⟩
      case round =>
        clear HM HG HZ hx2
        obtain ⟨rfl, m, x, hm, hg, hx3, rfl, rfl, hz⟩ := hrel
        have HM := Lib.hid hm
        have HG := Lib.hid hg
        have HZ := Lib.hid hz
        clear hm hg hz
        by_cases hx4 : 0 < x
        · have hxi : (0 : Int) < x := by omega
          have hm31 : m ≤ 31 := place_up1 HX.out (by rw [HM.out]; exact hx4)
          go_wp2_with fail
          go_roundg (x / 2)
          case measure => have := HG.out; omega
          case rel =>
            refine ⟨rfl, m + 1, x / 2, by rw [div_pow_add, HM.out], Nat.le_refl _, by omega, by congr 1; omega, ?_, Or.inr ?_⟩
            · first | rfl | (rw [Int.natCast_ediv]; rfl) | (congr 1; omega)
            · rw [show m + 1 - 1 = m by omega, HM.out]; omega
        · have hx0 : x = 0 := by omega
          subst hx0
          have hm1 : 1 ≤ m := by
            rcases Nat.eq_zero_or_pos m with h | h
            · have h1 := HM.out
              rw [h, Nat.pow_zero, Nat.div_one] at h1
              exact absurd h1 HX0.out
            · exact h
          obtain ⟨p, rfl⟩ : ∃ p, m = p + 1 := ⟨m - 1, by omega⟩
          have hp : ((p + 1 : Nat) : Int) - 1 = p := by omega
          have HP := Lib.hid (HPL.out p HM.out (by rcases HZ.out with h | h; omega; simpa using h))
          clear hx3 hx4
          go_wp2_with fail
          go_ret2
          exact ⟨⟨p, by show Ending.returned (.tuple #[.int .i64 _, _]) = _; first | rfl | (congr 5; omega) | simp, HP.out⟩, rfl⟩

end Go.Proofs.Ytacegkjobfeiiaa

namespace Go.Proofs.Ytacegkjobfeiiaa
open Go.RowKit

/-- The slot is in use. -/
def Alive (n : Nat) (S : Nat → Sl) (i : Nat) : Prop := 1 ≤ i ∧ i ≤ n ∧ (S i).gen % 2 = 1 ∧ 0 ≤ (S i).gen ∧ (S i).gen ≤ 1000000

def hnd (S : Nat → Sl) (t : Tr) : Int := wd t.slot (S t.slot).gen

/-- The tree stands in the slots. -/
def Rep (n : Nat) (S : Nat → Sl) : Tr → Prop
  | .leaf i k v => Alive n S i ∧ (S i).a = 0 ∧ (S i).b = k ∧ (S i).c = v ∧ (S i).d = 1
  | .node i p f l r => Alive n S i ∧ (S i).a = f * 64 + p + 1 ∧ (S i).b = hnd S l ∧ (S i).c = hnd S r ∧ (S i).d = ((Tr.node i p f l r).cnt : Nat) ∧ Rep n S l ∧ Rep n S r

theorem Rep.alive {n : Nat} {S : Nat → Sl} {t : Tr} (h : Rep n S t) : Alive n S t.slot := by
  cases t with
  | leaf => exact h.1
  | node => exact h.1

/-- The node as the interface's value. -/
def shV (S : Nat → Sl) : Tr → Value
  | .leaf _ k v => .iface 129 (.agg #[.int .i64 k, .int .i64 v])
  | .node i p f l r => .iface 135 (innerV p f (hnd S l) (hnd S r) ((Tr.node i p f l r).cnt : Nat))

def ndV (S : Nat → Sl) (t : Tr) : Value := .agg #[.int .i64 (hnd S t), shV S t]

set_option maxHeartbeats 1600000 in
theorem shaped_leaf (k v : Int) (hk : 0 ≤ k ∧ k ≤ 4294967295) (w : World) :
    Calls Try.prog 97 #[.agg #[.int .i64 0, .int .i64 k, .int .i64 v, .int .i64 1]] w fun e w' => e = .returned (.tuple #[.iface 129 (.agg #[.int .i64 k, .int .i64 v]), .bool true]) ∧ Only [] w w' := by
  have ka : isK k = true := by simp [isK]; exact hk
  have HK := Lib.hid (fun w => trie_key k w)
  rw [ka] at HK
  clear ka hk
  go_enter Try.func97, Try.ntmps97
  go_wp2_with fail
  refine wp_name (fun w1 => Blk w1 w.heap.size #[.int .i64 0, .int .i64 k, .int .i64 v, .int .i64 1] 73 ∧ Only [] w w1) ⟨Blk.new _ _ _, Only.alloc _ _ _⟩ ?_
  rintro w1 ⟨hB, hO⟩
  have b0 := hB.cell 0 rfl
  have b1 := hB.cell 1 rfl
  have b2 := hB.cell 2 rfl
  have b3 := hB.cell 3 rfl
  generalize w.heap.size = ib at *
  have HO := Lib.hid hO
  clear hO hB
  go_wp2_with fail
  go_quiet ((go_at_call 41; exact Calls.quiet_of_same ((HK.out _).mono fun _ _ h => ⟨h.1, h.2.symm⟩)))
  go_wp2_with fail
  go_ret2
  exact ⟨rfl, HO.out.trans (Only.drewN [] _ _)⟩

set_option maxHeartbeats 1600000 in
theorem shaped_inner (p : Nat) (f l r c : Int) (hp : p < 32) (hf : 0 ≤ f ∧ f ≤ 4294967295) (hq : ∃ q : Int, f = q * pw (p + 1)) (w : World) :
    Calls Try.prog 97 #[.agg #[.int .i64 (f * 64 + p + 1), .int .i64 l, .int .i64 r, .int .i64 c]] w fun e w' => e = .returned (.tuple #[.iface 135 (innerV p f l r c), .bool true]) ∧ Only [] w w' := by
  have ka : isK f = true := by simp [isK]; exact hf
  have HK := Lib.hid (fun w => trie_key f w)
  rw [ka] at HK
  have hw1 : wrap64 (2 * (2 : Int) ^ p) = pw (p + 1) := by rw [pw_cast, ← pw_succ]; exact w64 _ (by have h1 := pw_pos (p + 1); have h2 := pw_le (p := p + 1) (by omega); omega)
  have hp0 := pw_pos (p + 1)
  have hmod : (f % pw (p + 1) == 0) = true := by
    obtain ⟨q, rfl⟩ := hq
    simp
  clear hq
  obtain ⟨hf0, hf1⟩ := hf
  generalize hA : f * 64 + (p : Int) + 1 = A
  have hA0 : ¬ A < 0 := by omega
  have hA1 : (A == 0) = false := by simp; omega
  have hm1 : (A - 1) % 64 = p := by omega
  have hm2 : (A - 1) / 64 = f := by omega
  have hAb : 1 ≤ A ∧ A ≤ 1000000000000 := by omega
  obtain ⟨hA2, hA3⟩ := hAb
  have hpi : (p : Int) < 32 := by omega
  clear ka hA
  unfold innerV
  go_enter Try.func97, Try.ntmps97
  go_wp2_with fail
  refine wp_name (fun w1 => Blk w1 (w.heap.size + 1) #[.int .i64 p, .int .i64 f, .int .i64 l, .int .i64 r, .int .i64 c] 135 ∧ Only [] w w1) ⟨?_, (Only.alloc [] _ _).trans (Only.alloc [] _ _)⟩ ?_
  · have := Blk.new (w.alloc (.cells #[.int .i64 A, .int .i64 l, .int .i64 r, .int .i64 c] 73)) #[.int .i64 p, .int .i64 f, .int .i64 l, .int .i64 r, .int .i64 c] 135
    simpa using this
  rintro w1 ⟨hB, hO⟩
  have b0 := hB.cell 0 rfl
  have b1 := hB.cell 1 rfl
  have b2 := hB.cell 2 rfl
  have b3 := hB.cell 3 rfl
  have b4 := hB.cell 4 rfl
  generalize w.heap.size + 1 = ib at *
  generalize w.heap.size = ia at *
  have HO := Lib.hid hO
  clear hO hB hm1 hm2 hA0 hA1 hA2 hA3
  go_quiet ((go_at_call 41; exact Calls.quiet_of_same ((HK.out _).mono fun _ _ h => ⟨h.1, h.2.symm⟩)))
  go_wp2_with fail
  go_ret2
  exact ⟨rfl, HO.out.trans (Only.drewN [] _ _)⟩

end Go.Proofs.Ytacegkjobfeiiaa

namespace Go.Proofs.Ytacegkjobfeiiaa
open Go.RowKit

/- The number 316 is this seat's own (it stands in the walk's goal at an interface's call: '(method 316 ..)'). -/
theorem meth_leaf (k v : Int) (w : World) : (method 316 129 (.agg #[.int .i64 k, .int .i64 v]) "skein/trie.span").run Try.prog w = .ok (116, .agg #[.int .i64 k, .int .i64 v]) w := by kernel_rfl
theorem meth_inner (p f l r c : Int) (w : World) : (method 316 135 (.agg #[.int .i64 p, .int .i64 f, .int .i64 l, .int .i64 r, .int .i64 c]) "skein/trie.span").run Try.prog w = .ok (85, .agg #[.int .i64 p, .int .i64 f, .int .i64 l, .int .i64 r, .int .i64 c]) w := by kernel_rfl

theorem Rep.meets {A : PA} {n : Nat} {S : Nat → Sl} {t : Int} {fs : List Nat} {fa : Int} {x : Tr} (h : Rep n S x) (hn : n ≤ 4096) : Meets A n S t fs fa (hnd S x) x.slot := by
  obtain ⟨h1, h2, ho, h0, h3⟩ := h.alive
  exact meets_of h1 h2 (idxOf_wd (by omega) (by omega) h0 (by omega)) (tagOf_wd (by omega) (by omega) h0 (by omega)) ho rfl

set_option maxRecDepth 100000 in
set_option maxHeartbeats 2000000 in
theorem trie_read_leaf (A : PA) (n : Nat) (S : Nat → Sl) (t : Int) (fs : List Nat) (fa : Int) (tb i : Nat) (k v lo hi : Int) (w : World) (T : Blk w tb #[.pointer (some ⟨A.p, 0, none⟩)] 92) (H : PoolAt w A n S t fs fa) (R : Rep n S (.leaf i k v)) (wf : (Tr.leaf i k v).wf) (hlo : lo ≤ k) (hhi : k ≤ hi) :
    Calls Try.prog 84 #[.pointer (some ⟨tb, 0, none⟩), .pointer none, .int .i64 (hnd S (.leaf i k v)), .int .i64 lo, .int .i64 hi] w fun e w' => e = .returned (.tuple #[ndV S (.leaf i k v), .int .i64 0]) ∧ Only [] w w' := by
  have hm := H.many
  have hrd := fun w H => pool_read A n i S t fs fa (hnd S (.leaf i k v)) w H R.alive.2.1 (R.meets hm.2)
  obtain ⟨_, ea, eb, ec, ed⟩ := R
  rw [ea, eb, ec, ed] at hrd
  have HRD := Lib.hid hrd
  have HSH := Lib.hid (fun w => shaped_leaf k v wf w)
  have HH := Lib.hid H
  have ht0 : ∀ o : Obj, (w.alloc o).cell? ⟨tb, 0, none⟩ = some (.pointer (some ⟨A.p, 0, none⟩)) := fun o => (T.alloc o).cell 0 rfl
  have hd1 : decide (k < lo) = false := by simp; omega
  have hd2 : decide (hi < k) = false := by simp; omega
  unfold ndV shV
  generalize hnd S (.leaf i k v) = h at *
  clear hrd ea eb ec ed wf H T
  have hme := meth_leaf k v
  go_enter Try.func84, Try.ntmps84
  go_wp2_with fail
  refine calls_name (fun w1 => PoolAt w1 A n S t fs fa ∧ Blk w1 w.heap.size #[.int .i64 0, .nilIface] 125 ∧ Only [] w w1) ⟨HH.out.only (Only.alloc [] _ _) (by simp), Blk.new _ _ _, Only.alloc _ _ _⟩ ?_
  rintro w1 ⟨hP, hB, hO⟩
  have HB := Lib.hid hB
  have HO := Lib.hid hO
  have hbl := hB.lt
  generalize hrb : w.heap.size = rb at *
  have HRB := Lib.hid hrb
  clear hrb
  refine (HRD.out w1 hP).mono ?_
  rintro e w2 ⟨rfl, hO2⟩
  have HB2 := Lib.hid (HB.out.only hO2 (by simp))
  have HO2 := Lib.hid (HO.out.trans hO2)
  clear hP hB hO hO2 HB HO HRD HH hbl
  go_upto_region 4 with fail
  refine wp_name (fun w3 => Blk w3 w2.heap.size #[.int .i64 0, .int .i64 k, .int .i64 v, .int .i64 1] 73 ∧ Blk w3 rb #[.int .i64 0, .nilIface] 125 ∧ Only [] w w3) ⟨Blk.new _ _ _, HB2.out.alloc _, HO2.out.trans (Only.alloc _ _ _)⟩ ?_
  rintro w3 ⟨hN, hB3, hO3⟩
  have b0 := hN.cell 0 rfl
  have b1 := hN.cell 1 rfl
  have b2 := hN.cell 2 rfl
  have b3 := hN.cell 3 rfl
  have HB3 := Lib.hid hB3
  have HO3 := Lib.hid hO3
  clear hN hB3 hO3 HB2 HO2
  generalize w2.heap.size = nb at *
  clear w2
  go_wp2_with fail
  refine (HSH.out _).mono ?_
  rintro e w4 ⟨rfl, hO4⟩
  have HB4 := Lib.hid (HB3.out.only hO4 (by simp))
  have HO4 := Lib.hid (HO3.out.trans hO4)
  clear HB3 HO3 hO4 HSH b0 b1 b2 b3
  go_wp2_with fail
  refine (leaf_span k v _).mono ?_
  rintro e w5 ⟨rfl, hO5⟩
  have hB5 := HB4.out.only hO5 (by simp)
  have HO5 := Lib.hid (HO4.out.trans hO5)
  have r0 := hB5.cell 0 rfl
  have r1 := hB5.cell 1 rfl
  have g0 := hB5.free 0
  have g1 := hB5.free 1
  clear HB4 HO4 hO5 hB5 hme
  go_wp2_with fail
  refine bodyPost_ret (v := .tuple #[.agg #[.int .i64 h, .iface 129 (.agg #[.int .i64 k, .int .i64 v])], .int .i64 0]) (by simp [results, Try.results84, go_sem, r0, r1]) rfl ⟨rfl, ?_⟩
  exact HO5.out.past ((Only.setCell (S := [rb]) w5 (a := ⟨rb, 0, none⟩) (by simp) _).trans (Only.setCell _ (by simp) _)) (by have := HRB.out; simp; omega)

set_option maxRecDepth 100000 in
set_option maxHeartbeats 2000000 in
theorem trie_read_inner (A : PA) (n : Nat) (S : Nat → Sl) (t : Int) (fs : List Nat) (fa : Int) (tb i p : Nat) (f : Int) (l r : Tr) (lo hi : Int) (w : World) (T : Blk w tb #[.pointer (some ⟨A.p, 0, none⟩)] 92) (H : PoolAt w A n S t fs fa) (R : Rep n S (.node i p f l r)) (wf : (Tr.node i p f l r).wf) (hlo : lo ≤ f) (hhi : f + pw (p + 1) - 1 ≤ hi) :
    Calls Try.prog 84 #[.pointer (some ⟨tb, 0, none⟩), .pointer none, .int .i64 (hnd S (.node i p f l r)), .int .i64 lo, .int .i64 hi] w fun e w' => e = .returned (.tuple #[ndV S (.node i p f l r), .int .i64 0]) ∧ Only [] w w' := by
  have hm := H.many
  have hrd := fun w H => pool_read A n i S t fs fa (hnd S (.node i p f l r)) w H R.alive.2.1 (R.meets hm.2)
  obtain ⟨_, ea, eb, ec, ed, _⟩ := R
  rw [ea, eb, ec, ed] at hrd
  have HRD := Lib.hid hrd
  obtain ⟨hp, hq, hf0, hfM, _⟩ := wf
  have hpp := pw_pos (p + 1)
  have HSH := Lib.hid (fun w => shaped_inner p f (hnd S l) (hnd S r) ((Tr.node i p f l r).cnt : Nat) hp ⟨hf0, by omega⟩ hq w)
  have HSP := Lib.hid (fun w => inner_span p f (hnd S l) (hnd S r) ((Tr.node i p f l r).cnt : Nat) hp ⟨hf0, by omega⟩ w)
  have HH := Lib.hid H
  have ht0 : ∀ o : Obj, (w.alloc o).cell? ⟨tb, 0, none⟩ = some (.pointer (some ⟨A.p, 0, none⟩)) := fun o => (T.alloc o).cell 0 rfl
  have hd1 : decide (f < lo) = false := by simp; omega
  have hd2 : decide (hi < f + pw (p + 1) - 1) = false := by simp; omega
  show Calls Try.prog 84 #[.pointer (some ⟨tb, 0, none⟩), .pointer none, .int .i64 (hnd S (.node i p f l r)), .int .i64 lo, .int .i64 hi] w fun e w' => e = .returned (.tuple #[.agg #[.int .i64 (hnd S (.node i p f l r)), .iface 135 (.agg #[.int .i64 p, .int .i64 f, .int .i64 (hnd S l), .int .i64 (hnd S r), .int .i64 ((Tr.node i p f l r).cnt : Nat)])], .int .i64 0]) ∧ Only [] w w'
  unfold innerV at HSH HSP
  generalize hnd S (.node i p f l r) = h at *
  generalize hnd S l = hl at *
  generalize hnd S r = hr at *
  generalize (((Tr.node i p f l r).cnt : Nat) : Int) = ct at *
  generalize hF : f * 64 + (p : Int) + 1 = F at *
  generalize hG : f + pw (p + 1) - 1 = G at *
  clear hrd ea eb ec ed H T hF hG hq
  have hme := meth_inner p f hl hr ct
  go_enter Try.func84, Try.ntmps84
  go_wp2_with fail
  refine calls_name (fun w1 => PoolAt w1 A n S t fs fa ∧ Blk w1 w.heap.size #[.int .i64 0, .nilIface] 125 ∧ Only [] w w1) ⟨HH.out.only (Only.alloc [] _ _) (by simp), Blk.new _ _ _, Only.alloc _ _ _⟩ ?_
  rintro w1 ⟨hP, hB, hO⟩
  have HB := Lib.hid hB
  have HO := Lib.hid hO
  have hbl := hB.lt
  generalize hrb : w.heap.size = rb at *
  have HRB := Lib.hid hrb
  clear hrb
  refine (HRD.out w1 hP).mono ?_
  rintro e w2 ⟨rfl, hO2⟩
  have HB2 := Lib.hid (HB.out.only hO2 (by simp))
  have HO2 := Lib.hid (HO.out.trans hO2)
  clear hP hB hO hO2 HB HO HRD HH hbl
  go_upto_region 4 with fail
  refine wp_name (fun w3 => Blk w3 w2.heap.size #[.int .i64 F, .int .i64 hl, .int .i64 hr, .int .i64 ct] 73 ∧ Blk w3 rb #[.int .i64 0, .nilIface] 125 ∧ Only [] w w3) ⟨Blk.new _ _ _, HB2.out.alloc _, HO2.out.trans (Only.alloc _ _ _)⟩ ?_
  rintro w3 ⟨hN, hB3, hO3⟩
  have b0 := hN.cell 0 rfl
  have b1 := hN.cell 1 rfl
  have b2 := hN.cell 2 rfl
  have b3 := hN.cell 3 rfl
  have HB3 := Lib.hid hB3
  have HO3 := Lib.hid hO3
  clear hN hB3 hO3 HB2 HO2
  generalize w2.heap.size = nb at *
  clear w2
  go_wp2_with fail
  refine (HSH.out _).mono ?_
  rintro e w4 ⟨rfl, hO4⟩
  have HB4 := Lib.hid (HB3.out.only hO4 (by simp))
  have HO4 := Lib.hid (HO3.out.trans hO4)
  clear HB3 HO3 hO4 HSH b0 b1 b2 b3
  go_wp2_with fail
  refine (HSP.out _).mono ?_
  rintro e w5 ⟨rfl, hO5⟩
  have hB5 := HB4.out.only hO5 (by simp)
  have HO5 := Lib.hid (HO4.out.trans hO5)
  have r0 := hB5.cell 0 rfl
  have r1 := hB5.cell 1 rfl
  have g0 := hB5.free 0
  have g1 := hB5.free 1
  clear HB4 HO4 hO5 hB5 hme HSP
  go_wp2_with fail
  refine bodyPost_ret (v := .tuple #[.agg #[.int .i64 h, .iface 135 (.agg #[.int .i64 p, .int .i64 f, .int .i64 hl, .int .i64 hr, .int .i64 ct])], .int .i64 0]) (by simp [results, Try.results84, go_sem, r0, r1]) rfl ⟨rfl, ?_⟩
  exact HO5.out.past ((Only.setCell (S := [rb]) w5 (a := ⟨rb, 0, none⟩) (by simp) _).trans (Only.setCell _ (by simp) _)) (by have := HRB.out; simp; omega)

theorem trie_read (A : PA) (n : Nat) (S : Nat → Sl) (t : Int) (fs : List Nat) (fa : Int) (tb : Nat) (x : Tr) (lo hi : Int) (w : World) (T : Blk w tb #[.pointer (some ⟨A.p, 0, none⟩)] 92) (H : PoolAt w A n S t fs fa) (R : Rep n S x) (wf : x.wf) (hlo : lo ≤ x.lo) (hhi : x.hi ≤ hi) :
    Calls Try.prog 84 #[.pointer (some ⟨tb, 0, none⟩), .pointer none, .int .i64 (hnd S x), .int .i64 lo, .int .i64 hi] w fun e w' => e = .returned (.tuple #[ndV S x, .int .i64 0]) ∧ Only [] w w' := by
  cases x with
  | leaf i k v => exact trie_read_leaf A n S t fs fa tb i k v lo hi w T H R wf hlo hhi
  | node i p f l r => exact trie_read_inner A n S t fs fa tb i p f l r lo hi w T H R wf hlo hhi

end Go.Proofs.Ytacegkjobfeiiaa

namespace Go.Proofs.Ytacegkjobfeiiaa
open Go.RowKit

/-- The map's own block over its pool. -/
structure TrAt (w : World) (tb : Nat) (A : PA) (n : Nat) (S : Nat → Sl) (t : Int) (fs : List Nat) (fa : Int) : Prop where
  blk : Blk w tb #[.pointer (some ⟨A.p, 0, none⟩)] 92
  pool : PoolAt w A n S t fs fa
  off : tb ∉ A.all

theorem TrAt.plain {w w' : World} {tb : Nat} {A : PA} {n : Nat} {S : Nat → Sl} {t : Int} {fs : List Nat} {fa : Int} (h : TrAt w tb A n S t fs fa) (o : Only [] w w') : TrAt w' tb A n S t fs fa := ⟨h.blk.only o (by simp), h.pool.only o (by simp), h.off⟩

theorem TrAt.other {w w' : World} {tb : Nat} {A : PA} {n : Nat} {S : Nat → Sl} {t : Int} {fs : List Nat} {fa : Int} {L : List Nat} (h : TrAt w tb A n S t fs fa) (o : Only L w w') (h1 : tb ∉ L) (h2 : ∀ k, k ∈ A.all → k ∉ L) : TrAt w' tb A n S t fs fa := ⟨h.blk.only o h1, h.pool.only o h2, h.off⟩

theorem TrAt.lt {w : World} {tb : Nat} {A : PA} {n : Nat} {S : Nat → Sl} {t : Int} {fs : List Nat} {fa : Int} (h : TrAt w tb A n S t fs fa) : tb < w.heap.size ∧ ∀ k, k ∈ A.all → k < w.heap.size := ⟨h.blk.lt, h.pool.lt⟩

theorem ndV_agg (S : Nat → Sl) (x : Tr) : ndV S x = .agg #[.int .i64 (hnd S x), shV S x] := rfl
theorem shV_one (S : Nat → Sl) (x : Tr) : ∃ T v, shV S x = .iface T v := by cases x <;> exact ⟨_, _, rfl⟩

theorem tr_read {A : PA} {n : Nat} {S : Nat → Sl} {t : Int} {fs : List Nat} {fa : Int} {tb : Nat} {x : Tr} {lo hi : Int} {w : World} (T : TrAt w tb A n S t fs fa) (R : Rep n S x) (wf : x.wf) (hlo : lo ≤ x.lo) (hhi : x.hi ≤ hi) :
    Calls Try.prog 84 #[.pointer (some ⟨tb, 0, none⟩), .pointer none, .int .i64 (hnd S x), .int .i64 lo, .int .i64 hi] w fun e w' => e = .returned (.tuple #[ndV S x, .int .i64 0]) ∧ Only [] w w' :=
  trie_read A n S t fs fa tb x lo hi w T.blk T.pool R wf hlo hhi

set_option maxRecDepth 100000 in
set_option maxHeartbeats 2000000 in
theorem trie_root {A : PA} {n : Nat} {S : Nat → Sl} {t : Int} {fs : List Nat} {fa : Int} {tb : Nat} {x : Tr} {w : World} (T : TrAt w tb A n S t fs fa) (R : Rep n S x) (wf : x.wf) :
    Calls Try.prog 54 #[.pointer (some ⟨tb, 0, none⟩), .pointer none, .int .i64 (hnd S x)] w fun e w' => e = .returned (.tuple #[ndV S x, .int .i64 0]) ∧ Only [] w w' := by
  have hs := Tr.wf_span wf
  have hrd := (fun w T => tr_read (w := w) (S := S) (tb := tb) (A := A) (n := n) (t := t) (fs := fs) (fa := fa) (lo := 0) (hi := 4294967295) T R wf hs.1 hs.2.2)
  obtain ⟨ty, sv, hsv⟩ := shV_one S x
  simp only [ndV_agg, hsv] at hrd ⊢
  have HR := Lib.hid hrd
  clear hrd
  generalize hnd S x = h at *
  have HT := Lib.hid T
  clear T R wf hs hsv
  go_enter Try.func54, Try.ntmps54
  go_wp2_with fail
  refine calls_name (fun w1 => TrAt w1 tb A n S t fs fa ∧ Blk w1 w.heap.size #[.int .i64 0, .nilIface] 125 ∧ Only [] w w1) ⟨HT.out.plain (Only.alloc _ _ _), Blk.new _ _ _, Only.alloc _ _ _⟩ ?_
  rintro w1 ⟨hT, hB, hO⟩
  refine (HR.out w1 hT).mono ?_
  rintro e w2 ⟨rfl, hX⟩
  have hB2 := hB.only hX (by simp)
  have HO := Lib.hid (hO.trans hX)
  have r0 := hB2.cell 0 rfl
  have r1 := hB2.cell 1 rfl
  have g0 := hB2.free 0
  have g1 := hB2.free 1
  clear hT hB hO hX HR HT hB2
  generalize hrb : w.heap.size = rb at *
  have HRB := Lib.hid hrb
  clear hrb
  go_wp2_with fail
  try rw [Exit.noGoto_ret]
  refine bodyPost_ret (v := .tuple #[.agg #[.int .i64 h, .iface ty sv], .int .i64 0]) (by simp [results, Try.results54, go_sem, r0, r1]) rfl ⟨rfl, ?_⟩
  exact HO.out.past ((Only.setCell (S := [rb]) w2 (a := ⟨rb, 0, none⟩) (by simp) _).trans (Only.setCell _ (by simp) _)) (by have := HRB.out; simp; omega)

set_option maxRecDepth 100000 in
set_option maxHeartbeats 4000000 in
theorem trie_left {A : PA} {n : Nat} {S : Nat → Sl} {t : Int} {fs : List Nat} {fa : Int} {tb i p : Nat} {f : Int} {l r : Tr} {w : World} (T : TrAt w tb A n S t fs fa) (R : Rep n S (.node i p f l r)) (wf : (Tr.node i p f l r).wf) (hr c : Int) :
    Calls Try.prog 55 #[.pointer (some ⟨tb, 0, none⟩), .pointer none, innerV p f (hnd S l) hr c] w fun e w' => e = .returned (.tuple #[ndV S l, .int .i64 0]) ∧ Only [] w w' := by
  obtain ⟨hp, hq, hf0, hfM, wl, wr, a1, a2, a3, a4⟩ := wf
  obtain ⟨_, _, _, _, _, Rl, Rr⟩ := R
  have hpp := pw_pos (p + 1)
  have hp0 := pw_pos p
  have hp1 := pw_le (p := p) (by omega)
  have hrd := (fun w T => tr_read (w := w) (S := S) (tb := tb) (A := A) (n := n) (t := t) (fs := fs) (fa := fa) (lo := f) (hi := f + pw p - 1) T Rl wl a1 a2)
  have HH := Lib.hid (fun w => inner_half p f (hnd S l) hr c hp ⟨hf0, by omega⟩ w)
  obtain ⟨ty, sv, hsv⟩ := shV_one S l
  simp only [ndV_agg, hsv] at hrd ⊢
  have HR := Lib.hid hrd
  clear hrd
  generalize hnd S l = h at *
  have HT := Lib.hid T
  have hsub : IntKind.i64.wrap (f + pw p - 1) = f + pw p - 1 := wraps_i64 _ (by omega) (by omega)
  unfold innerV at *
  clear T Rl Rr wl wr a1 a2 a3 a4 hq hsv hpp
  go_enter Try.func55, Try.ntmps55
  go_wp2_with fail
  refine wp_name (fun w1 => TrAt w1 tb A n S t fs fa ∧ Blk w1 w.heap.size #[.int .i64 p, .int .i64 f, .int .i64 h, .int .i64 hr, .int .i64 c] 135 ∧ Blk w1 (w.heap.size + 1) #[.int .i64 0, .nilIface] 125 ∧ Only [] w w1) ⟨HT.out.plain ((Only.alloc [] _ _).trans (Only.alloc [] _ _)), (Blk.new _ _ _).alloc _, ?_, (Only.alloc [] _ _).trans (Only.alloc [] _ _)⟩ ?_
  · have := Blk.new (w.alloc (.cells #[.int .i64 p, .int .i64 f, .int .i64 h, .int .i64 hr, .int .i64 c] 135)) #[.int .i64 0, .nilIface] 125
    simpa using this
  rintro w1 ⟨hT, hI, hB, hO⟩
  have HB := Lib.hid hB
  have HO := Lib.hid hO
  have HI := Lib.hid hI
  have HT1 := Lib.hid hT
  have b0 := hI.cell 0 rfl
  have b1 := hI.cell 1 rfl
  have b2 := hI.cell 2 rfl
  have b3 := hI.cell 3 rfl
  have b4 := hI.cell 4 rfl
  clear hT hI hB hO HT
  generalize hrb : w.heap.size + 1 = rb at *
  generalize hib : w.heap.size = ib at *
  have HRB := Lib.hid hrb
  have HIB := Lib.hid hib
  clear hrb hib
  go_cut [7] (fun s7 wc => s7 = .int .i64 0 ∧ wc.cell? ⟨rb, 0, none⟩ = some (.int .i64 h) ∧ wc.cell? ⟨rb, 1, none⟩ = some (.iface ty sv) ∧ Only [] w wc)
  case first =>
    go_region_with (first | (go_at_call 63; refine (HH.out _).mono ?_; rintro e w2 ⟨rfl, hX2⟩; have hI2 := (HI.out.only (Only.drew [] _) (by simp)).only hX2 (by simp); have d0 := hI2.cell 0 rfl; have d1 := hI2.cell 1 rfl; have d2 := hI2.cell 2 rfl; have d3 := hI2.cell 3 rfl; have d4 := hI2.cell 4 rfl; clear hI2) | (go_at_call 84; refine (HR.out _ ((HT1.out.plain (Only.drew [] _)).plain hX2)).mono ?_; rintro e w3 ⟨rfl, hX3⟩; have hB3 := ((HB.out.only (Only.drew [] _) (by simp)).only hX2 (by simp)).only hX3 (by simp); have k0 := hB3.cell 0 rfl; have k1 := hB3.cell 1 rfl; have g0 := hB3.free 0; have g1 := hB3.free 1; have HB3 := Lib.hid hB3; clear hB3))
    all_goals (go_wp2_with fail; go_meet)
    all_goals
      have hB5 := (HB3.out.set_same 0 (.int .i64 h)).set_same 1 (.iface ty sv)
      have hX5 : Only [rb] w3 ((w3.setCell ⟨rb, 0, none⟩ (.int .i64 h)).setCell ⟨rb, 1, none⟩ (.iface ty sv)) := (Only.setCell _ (by simp) _).trans (Only.setCell _ (by simp) _)
      have hO5 := (((HO.out.trans (Only.drew [] _)).trans hX2).trans hX3).past hX5 (by have := HRB.out; have := HIB.out; simp; omega)
      first
        | exact ⟨rfl, hB5.cell 0 rfl, hB5.cell 1 rfl, hO5⟩
        | exact ⟨rfl, hB5.cell 0 rfl, hB5.cell 1 rfl, hO5.trans (Only.drew [] _)⟩
  case rest =>
    obtain ⟨rfl, r0, r1, hO2⟩ := hcut
    have HO2 := Lib.hid hO2
    clear hO2 HB HO HI HT1 b0 b1 b2 b3 b4 HR HH
    go_wp2_with fail
    try rw [Exit.noGoto_ret]
    refine bodyPost_ret (v := .tuple #[.agg #[.int .i64 h, .iface ty sv], .int .i64 0]) (by simp [results, Try.results55, go_sem, r0, r1]) rfl ⟨rfl, HO2.out⟩

end Go.Proofs.Ytacegkjobfeiiaa

namespace Go.Proofs.Ytacegkjobfeiiaa
open Tr

theorem slot_mem (t : Tr) : t.slot ∈ t.slots := by cases t <;> simp [Tr.slot, Tr.slots]

theorem Rep.same {n : Nat} {S S' : Nat → Sl} : ∀ {t : Tr}, Rep n S t → (∀ i, i ∈ t.slots → S' i = S i) → Rep n S' t
  | .leaf i k v, h, e => by
    have := e i (by simp [Tr.slots])
    unfold Rep Alive at *
    rw [this]; exact h
  | .node i p f l r, h, e => by
    have hi := e i (by simp [Tr.slots])
    have hl := e l.slot (by simp [Tr.slots, slot_mem])
    have hr := e r.slot (by simp [Tr.slots, slot_mem])
    obtain ⟨h1, h2, h3, h4, h5, h6, h7⟩ := h
    refine ⟨?_, ?_, ?_, ?_, ?_, h6.same fun j hj => e j (by simp [Tr.slots, hj]), h7.same fun j hj => e j (by simp [Tr.slots, hj])⟩
    · unfold Alive at *; rw [hi]; exact h1
    · rw [hi]; exact h2
    · unfold hnd at *; rw [hi, hl]; exact h3
    · unfold hnd at *; rw [hi, hr]; exact h4
    · rw [hi]; exact h5

theorem hnd_same {S S' : Nat → Sl} {t : Tr} (e : ∀ i, i ∈ t.slots → S' i = S i) : hnd S' t = hnd S t := by unfold hnd; rw [e _ (slot_mem t)]

theorem Rep.alive_all {n : Nat} {S : Nat → Sl} : ∀ {t : Tr}, Rep n S t → ∀ i, i ∈ t.slots → Alive n S i
  | .leaf i k v, h, j, hj => by simp [Tr.slots] at hj; subst hj; exact h.1
  | .node i p f l r, h, j, hj => by
    obtain ⟨h1, _, _, _, _, h6, h7⟩ := h
    simp only [Tr.slots, List.mem_cons, List.mem_append] at hj
    rcases hj with rfl | hj | hj
    · exact h1
    · exact h6.alive_all j hj
    · exact h7.alive_all j hj

/-- The free places: each once, none in use; no generation is large. -/
structure Fre (n : Nat) (S : Nat → Sl) (fs : List Nat) (c : Int) : Prop where
  nodup : fs.Nodup
  rng : ∀ i, i ∈ fs → 1 ≤ i ∧ i ≤ n ∧ (S i).gen % 2 = 0
  gens : ∀ i, 0 ≤ (S i).gen ∧ (S i).gen ≤ c

theorem Fre.out {n : Nat} {S : Nat → Sl} {fs : List Nat} {c : Int} (h : Fre n S fs c) {t : Tr} (R : Rep n S t) : ∀ i, i ∈ t.slots → i ∉ fs := fun i hi hf => by
  have h1 := (R.alive_all i hi).2.2.1
  have h2 := (h.rng i hf).2.2
  omega

theorem Fre.mono {n : Nat} {S : Nat → Sl} {fs : List Nat} {c d : Int} (h : Fre n S fs c) (hd : c ≤ d) : Fre n S fs d := ⟨h.nodup, h.rng, fun i => ⟨(h.gens i).1, by have := (h.gens i).2; omega⟩⟩

/-- k places have been taken, one behind the other. -/
structure Mg (S0 S : Nat → Sl) (fs0 fs : List Nat) (t0 t : Int) (k : Nat) : Prop where
  le : k ≤ fs0.length
  rest : fs = fs0.drop k
  tag : t = t0 + k
  old : ∀ i, i ∉ fs0.take k → S i = S0 i
  gen : ∀ i, i ∈ fs0.take k → (S i).gen = (S0 i).gen + 1

theorem Mg.zero (S : Nat → Sl) (fs : List Nat) (t : Int) : Mg S S fs fs t t 0 := ⟨Nat.zero_le _, rfl, by omega, fun _ _ => rfl, fun i h => by simp at h⟩

/-- The handles that were made. -/
def mds (S0 : Nat → Sl) (is : List Nat) : List Int := is.map fun (i : Nat) => wd i ((S0 i).gen + 1)

theorem Mg.cons {S0 S : Nat → Sl} {fs0 fs : List Nat} {t0 t : Int} {k i : Nat} {r : List Nat} (h : Mg S0 S fs0 fs t0 t k) (e : fs = i :: r) : k < fs0.length ∧ fs0.take (k + 1) = fs0.take k ++ [i] ∧ r = fs0.drop (k + 1) ∧ fs0[k]? = some i := by
  have h1 := h.rest
  have hl : k < fs0.length := by
    have : (fs0.drop k).length = (i :: r).length := by rw [← h1, e]
    simp at this; omega
  rw [List.drop_eq_getElem_cons hl] at h1
  have h2 : i = fs0[k] ∧ r = fs0.drop (k + 1) := by rw [e] at h1; injection h1 with p q; exact ⟨p, q⟩
  refine ⟨hl, ?_, h2.2, ?_⟩
  · rw [List.take_succ_eq_append_getElem hl, h2.1]
  · rw [List.getElem?_eq_getElem hl, h2.1]

theorem Mg.step {n : Nat} {S0 S : Nat → Sl} {fs0 fs : List Nat} {t0 t c : Int} {k i : Nat} {r : List Nat} (h : Mg S0 S fs0 fs t0 t k) (F : Fre n S0 fs0 c) (e : fs = i :: r) (x : Sl) (hx : x.gen = (S i).gen + 1) :
    Mg S0 (upS S i x) fs0 r t0 (t + 1) (k + 1) ∧ (S i).gen = (S0 i).gen ∧ i ∉ fs0.take k := by
  obtain ⟨hl, ht, hr, _⟩ := h.cons e
  have hn : i ∉ fs0.take k := by
    have := F.nodup
    have hs : (fs0.take (k + 1)).Nodup := this.sublist (List.take_sublist _ _)
    rw [ht, List.nodup_append] at hs
    intro hm
    exact hs.2.2 i hm i (by simp) rfl
  have hS := h.old i hn
  refine ⟨⟨by omega, hr, by have := h.tag; omega, fun j hj => ?_, fun j hj => ?_⟩, by rw [hS], hn⟩
  · rw [ht] at hj
    simp only [List.mem_append, List.mem_singleton, not_or] at hj
    rw [upS_other _ _ hj.2]
    exact h.old j hj.1
  · rw [ht] at hj
    simp only [List.mem_append, List.mem_singleton] at hj
    by_cases hji : j = i
    · subst hji; rw [upS_same, hx, hS]
    · rcases hj with hj | hj
      · rw [upS_other _ _ hji]; exact h.gen j hj
      · exact absurd hj hji

theorem Mg.fre {n : Nat} {S0 S : Nat → Sl} {fs0 fs : List Nat} {t0 t c : Int} {k : Nat} (h : Mg S0 S fs0 fs t0 t k) (F : Fre n S0 fs0 c) : Fre n S fs (c + 1) := by
  have hn : ∀ i, i ∈ fs → i ∉ fs0.take k := fun i hi hm => by
    have := F.nodup
    rw [← List.take_append_drop k fs0, List.nodup_append] at this
    exact this.2.2 i hm i (by rw [← h.rest]; exact hi) rfl
  refine ⟨?_, fun i hi => ?_, fun i => ?_⟩
  · rw [h.rest]; exact F.nodup.sublist (List.drop_sublist _ _)
  · have h0 := F.rng i (by rw [h.rest] at hi; exact List.mem_of_mem_drop hi)
    rw [h.old i (hn i hi)]; exact h0
  · have h0 := F.gens i
    by_cases hi : i ∈ fs0.take k
    · rw [h.gen i hi]; omega
    · rw [h.old i hi]; omega

/-- What had been made was given back: the free places are what they were. -/
structure Undone (S0 S : Nat → Sl) (fs : List Nat) : Prop where
  old : ∀ i, i ∉ fs → S i = S0 i
  gen : ∀ i, i ∈ fs → (S i).gen = (S0 i).gen + 2

theorem Undone.fre {n : Nat} {S0 S : Nat → Sl} {fs : List Nat} {c : Int} (h : Undone S0 S fs) (F : Fre n S0 fs c) : Fre n S fs (c + 2) := by
  refine ⟨F.nodup, fun i hi => ?_, fun i => ?_⟩
  · have h0 := F.rng i hi
    rw [h.gen i hi]; omega
  · have h0 := F.gens i
    by_cases hi : i ∈ fs
    · rw [h.gen i hi]; omega
    · rw [h.old i hi]; omega

/-- Slots given back. -/
def backS (S : Nat → Sl) (is : List Nat) : Nat → Sl := fun i => if i ∈ is then poisoned ((S i).gen + 1) else S i

theorem backS_fre {n : Nat} {S : Nat → Sl} {is fs : List Nat} {c : Int} (F : Fre n S fs c) (ha : ∀ i, i ∈ is → Alive n S i) (hd : is.Nodup) (ho : ∀ i, i ∈ is → i ∉ fs) : Fre n (backS S is) (is ++ fs) (c + 1) := by
  refine ⟨List.nodup_append.2 ⟨hd, F.nodup, fun a h1 b h2 e => ho a h1 (e ▸ h2)⟩, fun i hi => ?_, fun i => ?_⟩
  · rcases List.mem_append.1 hi with hi | hi
    · obtain ⟨h1, h2, h3, _⟩ := ha i hi
      unfold backS; rw [if_pos hi]
      exact ⟨h1, h2, by show ((S i).gen + 1) % 2 = 0; omega⟩
    · have hn : i ∉ is := fun h => ho i h hi
      unfold backS; rw [if_neg hn]
      exact F.rng i hi
  · have h0 := F.gens i
    unfold backS
    split
    · show 0 ≤ (S i).gen + 1 ∧ (S i).gen + 1 ≤ c + 1; omega
    · omega

theorem Mg.undone {n : Nat} {S0 S : Nat → Sl} {fs0 fs : List Nat} {t0 t c : Int} {k : Nat} (h : Mg S0 S fs0 fs t0 t k) (F : Fre n S0 fs0 c) (hk : fs = []) : Undone S0 (backS S fs0) fs0 ∧ k = fs0.length ∧ (∀ i, i ∈ fs0 → (S i).gen = (S0 i).gen + 1 ∧ (S i).gen % 2 = 1 ∧ 1 ≤ i ∧ i ≤ n ∧ 0 ≤ (S i).gen ∧ (S i).gen ≤ c + 1) := by
  have hl : k = fs0.length := by
    have h1 := h.rest
    rw [hk] at h1
    have h2 := congrArg List.length h1
    simp at h2
    have := h.le
    omega
  have ht : fs0.take k = fs0 := by rw [hl]; exact List.take_length
  refine ⟨⟨fun i hi => ?_, fun i hi => ?_⟩, hl, fun i hi => ?_⟩
  · unfold backS; rw [if_neg hi]; exact h.old i (by rw [ht]; exact hi)
  · unfold backS; rw [if_pos hi]
    show (S i).gen + 1 = _
    rw [h.gen i (by rw [ht]; exact hi)]; omega
  · have h1 := h.gen i (by rw [ht]; exact hi)
    have h2 := F.rng i hi
    have h3 := F.gens i
    exact ⟨h1, by omega, h2.1, h2.2.1, by omega, by omega⟩

end Go.Proofs.Ytacegkjobfeiiaa

namespace Go.Proofs.Ytacegkjobfeiiaa
open Tr

def Tr.rk : Tr → Nat
  | .leaf _ _ _ => 0
  | .node _ p _ _ _ => p + 1

theorem pw_lt {a b : Nat} (h : a < b) : pw a < pw b := by
  unfold pw
  have := Nat.pow_lt_pow_right (show 1 < 2 by decide) h
  omega

theorem pw_le_of {a b : Nat} (h : pw a ≤ pw b) : a ≤ b := by
  by_cases hb : a ≤ b
  · exact hb
  · have := pw_lt (show b < a by omega)
    omega

theorem rk_in {t : Tr} {p : Nat} {lo hi : Int} (h1 : lo ≤ t.lo) (h2 : t.hi ≤ hi) (h3 : hi - lo + 1 ≤ pw p) : t.rk ≤ p := by
  cases t with
  | leaf => exact Nat.zero_le _
  | node i q f l r =>
    simp only [Tr.lo, Tr.hi] at h1 h2
    show q + 1 ≤ p
    exact pw_le_of (by omega)

theorem rk_children {i p : Nat} {f : Int} {l r : Tr} (h : (Tr.node i p f l r).wf) : l.rk ≤ p ∧ r.rk ≤ p := by
  obtain ⟨_, _, _, _, _, _, a1, a2, a3, a4⟩ := h
  have := pw_succ p
  exact ⟨rk_in a1 a2 (by omega), rk_in a3 a4 (by omega)⟩

theorem down_len : ∀ (t : Tr) (k : Int), t.wf → (down t k).1.length ≤ t.rk
  | .leaf i a v, k, _ => by simp [down]
  | .node i p f l r, k, h => by
    have hc := rk_children h
    obtain ⟨_, _, _, _, hl, hr, _⟩ := h
    have h1 := down_len l k hl
    have h2 := down_len r k hr
    unfold down
    split
    · split
      · simp only [List.length_cons, Tr.rk]; omega
      · simp only [List.length_cons, Tr.rk]; omega
    · simp [Tr.rk]

theorem rk_le {t : Tr} (h : t.wf) : t.rk ≤ 32 := by
  cases t with
  | leaf => simp [Tr.rk]
  | node i p f l r =>
    obtain ⟨h1, _⟩ := h
    simp only [Tr.rk]; omega

theorem down_right {i p : Nat} {f : Int} {l r : Tr} {k : Int} (h1 : f ≤ k ∧ k ≤ f + pw (p + 1) - 1) (h2 : f + pw p ≤ k) : down (.node i p f l r) k = (⟨i, p, f, l, r, true⟩ :: (down r k).1, (down r k).2) := by
  rw [down, if_pos h1, if_pos h2]
theorem down_left {i p : Nat} {f : Int} {l r : Tr} {k : Int} (h1 : f ≤ k ∧ k ≤ f + pw (p + 1) - 1) (h2 : ¬ f + pw p ≤ k) : down (.node i p f l r) k = (⟨i, p, f, l, r, false⟩ :: (down l k).1, (down l k).2) := by
  rw [down, if_pos h1, if_neg h2]
theorem down_out {i p : Nat} {f : Int} {l r : Tr} {k : Int} (h1 : ¬ (f ≤ k ∧ k ≤ f + pw (p + 1) - 1)) : down (.node i p f l r) k = ([], .node i p f l r) := by
  rw [down, if_neg h1]

/-- A step's seven cells. -/
def stepC (S : Nat → Sl) (s : Stp) : List Value := [.int .i64 s.p, .int .i64 s.f, .int .i64 (hnd S s.l), .int .i64 (hnd S s.r), .int .i64 (s.whole.cnt : Nat), .int .i64 (hnd S s.whole), .bool s.right]
def stepsC (S : Nat → Sl) (w : List Stp) : List Value := w.flatMap (stepC S)

theorem stepsC_snoc (S : Nat → Sl) (w : List Stp) (s : Stp) : stepsC S (w ++ [s]) = stepsC S w ++ stepC S s := by simp [stepsC]

theorem stepsC_length (S : Nat → Sl) (w : List Stp) : (stepsC S w).length = w.length * 7 := by
  induction w with
  | nil => rfl
  | cons s w ih => simp only [stepsC, List.flatMap_cons, List.length_append, List.length_cons] at *; rw [ih]; simp [stepC]; omega

theorem stepsC_at (S : Nat → Sl) : ∀ (w : List Stp) (i : Nat) (s : Stp), w[i]? = some s → ∀ j, j < 7 → (stepsC S w)[i * 7 + j]? = (stepC S s)[j]?
  | [], i, s, h, j, hj => by simp at h
  | a :: w, 0, s, h, j, hj => by
    simp at h
    subst h
    unfold stepsC
    rw [List.flatMap_cons, List.getElem?_append_left (by simp [stepC]; omega)]
    simp
  | a :: w, i + 1, s, h, j, hj => by
    simp at h
    have := stepsC_at S w i s h j hj
    unfold stepsC at this ⊢
    rw [List.flatMap_cons, List.getElem?_append_right (by simp [stepC]; omega), show (stepC S a).length = 7 from rfl, show (i + 1) * 7 + j - 7 = i * 7 + j by omega]
    exact this

end Go.Proofs.Ytacegkjobfeiiaa

namespace Go.Proofs.Ytacegkjobfeiiaa
open Tr

/-- A free place's generation is even and small. -/
def Spare (n : Nat) (S : Nat → Sl) (i : Nat) : Prop := 1 ≤ i ∧ i ≤ n ∧ (S i).gen % 2 = 0 ∧ 0 ≤ (S i).gen ∧ (S i).gen < 1000000

theorem Fre.spare {n : Nat} {S : Nat → Sl} {fs : List Nat} {c : Int} (h : Fre n S fs c) (hc : c < 1000000) {i : Nat} (hi : i ∈ fs) : Spare n S i := by
  obtain ⟨h1, h2, h3⟩ := h.rng i hi
  have := h.gens i
  exact ⟨h1, h2, h3, by omega, by omega⟩

theorem Spare.notin {n : Nat} {S : Nat → Sl} {i : Nat} (h : Spare n S i) {x : Tr} (R : Rep n S x) : i ∉ x.slots := fun hi => by
  have := (R.alive_all i hi).2.2.1
  have := h.2.2.1
  omega

theorem Rep.kept {n : Nat} {S : Nat → Sl} {i : Nat} {x : Tr} (R : Rep n S x) (h : Spare n S i) (s : Sl) : Rep n (upS S i s) x ∧ hnd (upS S i s) x = hnd S x := by
  have hn := h.notin R
  have e : ∀ j, j ∈ x.slots → upS S i s j = S j := fun j hj => upS_other _ _ (fun e => hn (e ▸ hj))
  exact ⟨R.same e, hnd_same e⟩

theorem rep_leaf {n : Nat} {S : Nat → Sl} {i : Nat} (h : Spare n S i) (k v : Int) : Rep n (upS S i ⟨(S i).gen + 1, 0, 0, 0, k, v, 1⟩) (.leaf i k v) := by
  obtain ⟨h1, h2, h3, h4, h5⟩ := h
  unfold Rep Alive
  rw [upS_same]
  exact ⟨⟨h1, h2, by show ((S i).gen + 1) % 2 = 1; omega, by show 0 ≤ (S i).gen + 1; omega, by show (S i).gen + 1 ≤ 1000000; omega⟩, rfl, rfl, rfl, rfl⟩

theorem rep_node {n : Nat} {S : Nat → Sl} {i : Nat} (h : Spare n S i) {l r : Tr} (hl : Rep n S l) (hr : Rep n S r) (p : Nat) (f c : Int) (hc : c = ((Tr.node i p f l r).cnt : Nat)) : Rep n (upS S i ⟨(S i).gen + 1, 0, 0, f * 64 + p + 1, hnd S l, hnd S r, c⟩) (.node i p f l r) := by
  have kl := hl.kept h ⟨(S i).gen + 1, 0, 0, f * 64 + p + 1, hnd S l, hnd S r, c⟩
  have kr := hr.kept h ⟨(S i).gen + 1, 0, 0, f * 64 + p + 1, hnd S l, hnd S r, c⟩
  obtain ⟨h1, h2, h3, h4, h5⟩ := h
  refine ⟨?_, ?_, ?_, ?_, ?_, kl.1, kr.1⟩
  · unfold Alive
    rw [upS_same]
    exact ⟨h1, h2, by show ((S i).gen + 1) % 2 = 1; omega, by show 0 ≤ (S i).gen + 1; omega, by show (S i).gen + 1 ≤ 1000000; omega⟩
  · rw [upS_same]
  · rw [upS_same, kl.2]
  · rw [upS_same, kr.2]
  · rw [upS_same]; exact hc

theorem way_rep {n : Nat} {S : Nat → Sl} : ∀ {w : List Stp} {t x : Tr}, Way t w x → Rep n S t → Rep n S x ∧ ∀ s, s ∈ w → Rep n S s.whole
  | [], t, x, h, R => by
    have h : t = x := h
    subst h; exact ⟨R, fun s hs => by simp at hs⟩
  | s :: w, t, x, h, R => by
    obtain ⟨rfl, h⟩ := h
    have hi : Rep n S s.into := by
      obtain ⟨_, _, _, _, _, hl, hr⟩ := R
      unfold Stp.into
      cases s.right
      · exact hl
      · exact hr
    obtain ⟨h1, h2⟩ := way_rep h hi
    exact ⟨h1, fun y hy => by rcases List.mem_cons.1 hy with rfl | hy; exact R; exact h2 y hy⟩

theorem whole_other {n : Nat} {S : Nat → Sl} {s : Stp} (R : Rep n S s.whole) : Rep n S s.other := by
  obtain ⟨_, _, _, _, _, hl, hr⟩ := R
  unfold Stp.other
  cases s.right
  · exact hr
  · exact hl

theorem Mg.kept {n : Nat} {S0 S : Nat → Sl} {fs0 fs : List Nat} {t0 t c : Int} {k : Nat} (h : Mg S0 S fs0 fs t0 t k) (F : Fre n S0 fs0 c) {x : Tr} (R : Rep n S0 x) : Rep n S x ∧ hnd S x = hnd S0 x := by
  have e : ∀ j, j ∈ x.slots → S j = S0 j := fun j hj => h.old j (fun hm => F.out R j hj (List.mem_of_mem_take hm))
  exact ⟨R.same e, hnd_same e⟩

theorem anew_cnt (s : Stp) (j : Nat) (t : Tr) : (s.anew j t).cnt + s.into.cnt = s.whole.cnt + t.cnt := by
  unfold Stp.anew Stp.into Stp.whole
  cases s.right
  · show (Tr.node j s.p s.f t s.r).cnt + s.l.cnt = s.l.cnt + s.r.cnt + t.cnt
    simp only [Tr.cnt]; omega
  · show (Tr.node j s.p s.f s.l t).cnt + s.r.cnt = s.l.cnt + s.r.cnt + t.cnt
    simp only [Tr.cnt]; omega

theorem rebuild_cnt : ∀ {w : List Stp} {T n : Tr} (t : Tr) (fs : List Nat), Way T w n → (rebuild w t fs).1.cnt + n.cnt = T.cnt + t.cnt
  | [], T, n, t, fs, h => by
    have h : T = n := h
    subst h; simp [rebuild]; omega
  | s :: w, T, n, t, fs, h => by
    obtain ⟨rfl, h⟩ := h
    have h1 := rebuild_cnt t fs h
    have h2 := anew_cnt s ((rebuild w t fs).2.headD 0) (rebuild w t fs).1
    simp only [rebuild]
    omega

/-- The rest of a way is a way. -/
theorem way_drop : ∀ {w : List Stp} {T n : Tr} (m : Nat), Way T w n → ∃ T', Way T' (w.drop m) n
  | w, T, n, 0, h => ⟨T, h⟩
  | [], T, n, m + 1, h => ⟨T, h⟩
  | s :: w, T, n, m + 1, h => way_drop m h.2

theorem way_at {w : List Stp} {T n : Tr} {m : Nat} {s : Stp} (h : Way T w n) (hs : w[m]? = some s) : w.drop m = s :: w.drop (m + 1) ∧ Way s.into (w.drop (m + 1)) n ∧ s ∈ w := by
  have hl : m < w.length := (List.getElem?_eq_some_iff.1 hs).1
  have e : w.drop m = s :: w.drop (m + 1) := by
    rw [List.drop_eq_getElem_cons hl]
    rw [List.getElem?_eq_getElem hl] at hs
    injection hs with hs
    rw [hs]
  refine ⟨e, ?_, List.mem_of_getElem? hs⟩
  obtain ⟨T', h'⟩ := way_drop m h
  rw [e] at h'
  exact h'.2

/-- The handles of the steps gone through, from below. -/
def goneI (w : List Stp) : List Nat := (w.map (·.i)).reverse

theorem goneI_cons (s : Stp) (w : List Stp) : goneI (s :: w) = goneI w ++ [s.i] := by simp [goneI]
theorem goneI_length (w : List Stp) : (goneI w).length = w.length := by simp [goneI]

/-- The handles of slots, as they stand. -/
def hnds (S : Nat → Sl) (is : List Nat) : List Int := is.map fun i => wd (i : Nat) (S i).gen

end Go.Proofs.Ytacegkjobfeiiaa

namespace Go.Proofs.Ytacegkjobfeiiaa
open Go.RowKit

set_option maxRecDepth 100000 in
set_option maxHeartbeats 4000000 in
theorem trie_right {A : PA} {n : Nat} {S : Nat → Sl} {t : Int} {fs : List Nat} {fa : Int} {tb i p : Nat} {f : Int} {l r : Tr} {w : World} (T : TrAt w tb A n S t fs fa) (R : Rep n S (.node i p f l r)) (wf : (Tr.node i p f l r).wf) (hl c : Int) :
    Calls Try.prog 56 #[.pointer (some ⟨tb, 0, none⟩), .pointer none, innerV p f hl (hnd S r) c] w fun e w' => e = .returned (.tuple #[ndV S r, .int .i64 0]) ∧ Only [] w w' := by
  obtain ⟨hp, hq, hf0, hfM, wl, wr, a1, a2, a3, a4⟩ := wf
  obtain ⟨_, _, _, _, _, Rl, Rr⟩ := R
  have hpp := pw_pos (p + 1)
  have hp0 := pw_pos p
  have hp1 := pw_le (p := p) (by omega)
  have hrd := (fun w T => tr_read (w := w) (S := S) (tb := tb) (A := A) (n := n) (t := t) (fs := fs) (fa := fa) (lo := f + pw p) (hi := f + pw (p + 1) - 1) T Rr wr a3 a4)
  have HH := Lib.hid (fun w => inner_half p f hl (hnd S r) c hp ⟨hf0, by omega⟩ w)
  have HSP := Lib.hid (fun w => inner_span p f hl (hnd S r) c hp ⟨hf0, by omega⟩ w)
  obtain ⟨ty, sv, hsv⟩ := shV_one S r
  simp only [ndV_agg, hsv] at hrd ⊢
  have HR := Lib.hid hrd
  clear hrd
  generalize hnd S r = h at *
  have HT := Lib.hid T
  unfold innerV at *
  clear T Rl Rr wl wr a1 a2 a3 a4 hq hsv hpp
  go_enter Try.func56, Try.ntmps56
  go_wp2_with fail
  refine calls_name (fun w1 => TrAt w1 tb A n S t fs fa ∧ Blk w1 w.heap.size #[.int .i64 p, .int .i64 f, .int .i64 hl, .int .i64 h, .int .i64 c] 135 ∧ Blk w1 (w.heap.size + 1) #[.int .i64 0, .nilIface] 125 ∧ Only [] w w1) ⟨HT.out.plain ((Only.alloc [] _ _).trans (Only.alloc [] _ _)), (Blk.new _ _ _).alloc _, ?_, (Only.alloc [] _ _).trans (Only.alloc [] _ _)⟩ ?_
  · have := Blk.new (w.alloc (.cells #[.int .i64 p, .int .i64 f, .int .i64 hl, .int .i64 h, .int .i64 c] 135)) #[.int .i64 0, .nilIface] 125
    simpa using this
  rintro w1 ⟨hT, hI, hB, hO⟩
  have HB := Lib.hid hB
  have HO := Lib.hid hO
  have HI := Lib.hid hI
  have HT1 := Lib.hid hT
  have b0 := hI.cell 0 rfl
  have b1 := hI.cell 1 rfl
  have b2 := hI.cell 2 rfl
  have b3 := hI.cell 3 rfl
  have b4 := hI.cell 4 rfl
  clear hT hI hB hO HT
  generalize hrb : w.heap.size + 1 = rb at *
  generalize hib : w.heap.size = ib at *
  have HRB := Lib.hid hrb
  have HIB := Lib.hid hib
  clear hrb hib
  refine (HSP.out _).mono ?_
  rintro e w1b ⟨rfl, hX1⟩
  have HB1 := Lib.hid (HB.out.only hX1 (by simp))
  have HO1 := Lib.hid (HO.out.trans hX1)
  have HI1 := Lib.hid (HI.out.only hX1 (by simp))
  have HT1b := Lib.hid (HT1.out.plain hX1)
  have b0 := HI1.out.cell 0 rfl
  have b1 := HI1.out.cell 1 rfl
  have b2 := HI1.out.cell 2 rfl
  have b3 := HI1.out.cell 3 rfl
  have b4 := HI1.out.cell 4 rfl
  clear hX1 HB HO HI HT1 HSP
  go_upto_region 2 with fail
  go_cut [7] (fun s7 wc => s7 = .int .i64 0 ∧ wc.cell? ⟨rb, 0, none⟩ = some (.int .i64 h) ∧ wc.cell? ⟨rb, 1, none⟩ = some (.iface ty sv) ∧ Only [] w wc)
  case first =>
    go_region_with (first | (go_at_call 63; refine (HH.out _).mono ?_; rintro e w2 ⟨rfl, hX2⟩; have hI2 := (HI1.out.only (Only.drew [] _) (by simp)).only hX2 (by simp); have d0 := hI2.cell 0 rfl; have d1 := hI2.cell 1 rfl; have d2 := hI2.cell 2 rfl; have d3 := hI2.cell 3 rfl; have d4 := hI2.cell 4 rfl; clear hI2) | (go_at_call 84; refine (HR.out _ ((HT1b.out.plain (Only.drew [] _)).plain hX2)).mono ?_; rintro e w3 ⟨rfl, hX3⟩; have hB3 := ((HB1.out.only (Only.drew [] _) (by simp)).only hX2 (by simp)).only hX3 (by simp); have k0 := hB3.cell 0 rfl; have k1 := hB3.cell 1 rfl; have g0 := hB3.free 0; have g1 := hB3.free 1; have HB3 := Lib.hid hB3; clear hB3))
    all_goals (go_wp2_with fail; go_meet)
    all_goals
      have hB5 := (HB3.out.set_same 0 (.int .i64 h)).set_same 1 (.iface ty sv)
      have hX5 : Only [rb] w3 ((w3.setCell ⟨rb, 0, none⟩ (.int .i64 h)).setCell ⟨rb, 1, none⟩ (.iface ty sv)) := (Only.setCell _ (by simp) _).trans (Only.setCell _ (by simp) _)
      have hO5 := (((HO1.out.trans (Only.drew [] _)).trans hX2).trans hX3).past hX5 (by have := HRB.out; have := HIB.out; simp; omega)
      first
        | exact ⟨rfl, hB5.cell 0 rfl, hB5.cell 1 rfl, hO5⟩
        | exact ⟨rfl, hB5.cell 0 rfl, hB5.cell 1 rfl, hO5.trans (Only.drew [] _)⟩
  case rest =>
    obtain ⟨rfl, r0, r1, hO2⟩ := hcut
    have HO2 := Lib.hid hO2
    clear hO2 HB1 HO1 HI1 HT1b b0 b1 b2 b3 b4 HR HH
    go_wp2_with fail
    try rw [Exit.noGoto_ret]
    refine bodyPost_ret (v := .tuple #[.agg #[.int .i64 h, .iface ty sv], .int .i64 0]) (by simp [results, Try.results56, go_sem, r0, r1]) rfl ⟨rfl, HO2.out⟩

end Go.Proofs.Ytacegkjobfeiiaa

namespace Go.Proofs.Ytacegkjobfeiiaa
open Go.RowKit

set_option maxRecDepth 100000 in
set_option maxHeartbeats 2000000 in
theorem trie_has (p : Nat) (f l r c k : Int) (hp : p < 32) (hf : 0 ≤ f ∧ f ≤ 4294967295) (w : World) :
    Calls Try.prog 71 #[.iface 135 (innerV p f l r c), .int .i64 k] w fun e w' => e = .returned (.bool (decide (f ≤ k ∧ k ≤ f + pw (p + 1) - 1))) ∧ Only [] w w' := by
  have HSP := Lib.hid (fun w => inner_span p f l r c hp hf w)
  have hme := meth_inner p f l r c
  unfold innerV at HSP ⊢
  generalize hG : f + pw (p + 1) - 1 = G at *
  clear hG hp hf
  by_cases h1 : f ≤ k
  · by_cases h2 : k ≤ G
    · go_enter Try.func71, Try.ntmps71
      go_wp2_with fail
      refine (HSP.out _).mono ?_
      rintro e w' ⟨rfl, hO⟩
      have HO := Lib.hid hO
      clear hO hme
      go_wp2_with fail
      go_ret
      exact ⟨by simp [h1, h2], HO.out⟩
    · have h2' : decide (k ≤ G) = false := by simpa using h2
      go_enter Try.func71, Try.ntmps71
      go_wp2_with fail
      refine (HSP.out _).mono ?_
      rintro e w' ⟨rfl, hO⟩
      have HO := Lib.hid hO
      clear hO hme
      go_wp2_with fail
      go_ret
      exact ⟨by simp [h1, h2], HO.out⟩
  · have h1' : decide (f ≤ k) = false := by simpa using h1
    go_enter Try.func71, Try.ntmps71
    go_wp2_with fail
    refine (HSP.out _).mono ?_
    rintro e w' ⟨rfl, hO⟩
    have HO := Lib.hid hO
    clear hO hme
    go_wp2_with fail
    go_ret
    exact ⟨by simp [h1]; omega, HO.out⟩

theorem assert_leaf (k v : Int) (w : World) : (Instr.typeAssert (.iface 129 (.agg #[.int .i64 k, .int .i64 v])) 123 135 true).run Try.prog w = .ok (.tuple #[.agg #[.int .i64 0, .int .i64 0, .int .i64 0, .int .i64 0, .int .i64 0], .bool false]) w := by kernel_rfl
theorem assert_inner (p f l r c : Int) (w : World) : (Instr.typeAssert (.iface 135 (.agg #[.int .i64 p, .int .i64 f, .int .i64 l, .int .i64 r, .int .i64 c])) 123 135 true).run Try.prog w = .ok (.tuple #[.agg #[.int .i64 p, .int .i64 f, .int .i64 l, .int .i64 r, .int .i64 c], .bool true]) w := by kernel_rfl
theorem assertL_leaf (k v : Int) (w : World) : (Instr.typeAssert (.iface 129 (.agg #[.int .i64 k, .int .i64 v])) 123 129 true).run Try.prog w = .ok (.tuple #[.agg #[.int .i64 k, .int .i64 v], .bool true]) w := by kernel_rfl
theorem assertL_inner (p f l r c : Int) (w : World) : (Instr.typeAssert (.iface 135 (.agg #[.int .i64 p, .int .i64 f, .int .i64 l, .int .i64 r, .int .i64 c])) 123 129 true).run Try.prog w = .ok (.tuple #[.agg #[.int .i64 0, .int .i64 0], .bool false]) w := by kernel_rfl

set_option maxRecDepth 100000 in
set_option maxHeartbeats 2000000 in
theorem node_count (S : Nat → Sl) (x : Tr) (w : World) :
    Calls Try.prog 53 #[ndV S x] w fun e w' => e = .returned (.int .i64 (x.cnt : Nat)) ∧ Only [] w w' := by
  cases x with
  | leaf i k v =>
    have hta := assert_leaf k v
    unfold ndV shV
    generalize hnd S (.leaf i k v) = h at *
    go_enter Try.func53, Try.ntmps53
    go_wp2_with fail
    go_ret
    exact ⟨rfl, Only.alloc _ _ _⟩
  | node i p f l r =>
    show Calls Try.prog 53 #[.agg #[.int .i64 (hnd S (.node i p f l r)), .iface 135 (.agg #[.int .i64 p, .int .i64 f, .int .i64 (hnd S l), .int .i64 (hnd S r), .int .i64 ((Tr.node i p f l r).cnt : Nat)])]] w fun e w' => e = .returned (.int .i64 ((Tr.node i p f l r).cnt : Nat)) ∧ Only [] w w'
    generalize hnd S (.node i p f l r) = h at *
    generalize hnd S l = hl at *
    generalize hnd S r = hr at *
    generalize ((Tr.node i p f l r).cnt : Int) = ct at *
    have hta := assert_inner p f hl hr ct
    go_enter Try.func53, Try.ntmps53
    go_wp2_with fail
    go_ret
    exact ⟨rfl, (Only.alloc _ _ _).trans (Only.alloc _ _ _)⟩

end Go.Proofs.Ytacegkjobfeiiaa

namespace Go.Proofs.Ytacegkjobfeiiaa
open Go.RowKit

theorem backS_nil (S : Nat → Sl) : backS S [] = S := by funext i; simp [backS]

theorem backS_cons (S : Nat → Sl) (i : Nat) (is : List Nat) (h : i ∉ is) : upS (backS S is) i (poisoned ((S i).gen + 1)) = backS S (i :: is) := by
  funext j
  by_cases hj : j = i
  · subst hj
    rw [upS_same]
    unfold backS
    rw [if_pos (by simp)]
  · rw [upS_other _ _ hj]
    unfold backS
    simp [hj]

set_option maxRecDepth 100000 in
set_option maxHeartbeats 2000000 in
theorem trie_undo {A : PA} {n : Nat} {S : Nat → Sl} {t : Int} {fs : List Nat} {fa : Int} {tb g cap : Nat} {is : List Nat} {w : World} (T : TrAt w tb A n S t fs fa) (hne : 0 < is.length) (hlen : is.length ≤ 4096) (hcap : is.length ≤ cap) (hgA : g ∉ A.all) (hgl : g < w.heap.size)
    (hc : ∀ (j i : Nat), is[j]? = some i → w.cell? ⟨g, j, none⟩ = some (.int .i64 (wd i (S i).gen))) (ha : ∀ i, i ∈ is → 1 ≤ i ∧ i ≤ n ∧ (S i).gen % 2 = 1 ∧ 0 ≤ (S i).gen ∧ (S i).gen ≤ 1000000) (hd : is.Nodup) (ho : ∀ i, i ∈ is → i ∉ fs) (ht : t + is.length ≤ 1000000) :
    Calls Try.prog 21 #[.pointer (some ⟨tb, 0, none⟩), .pointer none, .slice (some ⟨g, 0, none⟩) is.length cap] w fun e w' => e = .returned (.int .i64 0) ∧ TrAt w' tb A n (backS S is) (t + is.length) (is ++ fs) fa ∧ Only A.all w w' := by
  have hm := T.pool.many.2
  have HT := Lib.hid T
  have HC := Lib.hid hc
  have HA := Lib.hid ha
  have HD := Lib.hid hd
  have HO := Lib.hid ho
  have HTT := Lib.hid ht
  have HG := Lib.hid hgA
  have HM := Lib.hid hm
  clear T hc ha hd ho ht hgA hm
  generalize hn : is.length = k0 at *
  have HN := Lib.hid hn
  clear hn
  have hd0 : ((k0 : Int) == 0) = false := by simp; omega
  go_enter Try.func21, Try.ntmps21
  go_wp2_with fail
  clear hd0
  go_loopg [7, 8] k0 (fun gm s7 s8 wr => ∃ m : Nat, m ≤ k0 ∧ m = gm ∧ s7 = .int .i64 ((m : Int) - 1) ∧ TrAt wr tb A n (backS S (is.drop m)) (t + ((k0 : Int) - m)) (is.drop m ++ fs) fa ∧ Only A.all w wr)
  case atStart => exact ⟨k0, Nat.le_refl _, rfl, rfl, by rw [← HN.out, List.drop_length, backS_nil, Int.sub_self, Int.add_zero]; exact HT.out, Only.refl _ _⟩
  case round =>
    obtain ⟨m, hmk, hgm, rfl, hT, hO⟩ := hrel
    have HK := Lib.hid hgm
    clear hgm
    by_cases hm0 : 0 < m
    · obtain ⟨q, rfl⟩ : ∃ q, m = q + 1 := ⟨m - 1, by omega⟩
      obtain ⟨i, hi⟩ : ∃ i, is[q]? = some i := ⟨_, List.getElem?_eq_getElem (by rw [HN.out]; omega)⟩
      have hmem : i ∈ is := List.mem_of_getElem? hi
      have hdrop : is.drop q = i :: is.drop (q + 1) := by
        have hl : q < is.length := by rw [HN.out]; omega
        rw [List.drop_eq_getElem_cons hl]
        rw [List.getElem?_eq_getElem hl] at hi
        simp at hi
        rw [hi]
      have hnot : i ∉ is.drop (q + 1) := by
        have := HD.out
        have h2 : (is.drop q).Nodup := this.sublist (List.drop_sublist _ _)
        rw [hdrop] at h2
        exact (List.nodup_cons.1 h2).1
      obtain ⟨a1, a2, a3, a4, a5⟩ := HA.out i hmem
      have hSg : (backS S (is.drop (q + 1)) i).gen = (S i).gen := by unfold backS; rw [if_neg hnot]
      have hnfs : i ∉ is.drop (q + 1) ++ fs := by
        rw [List.mem_append]
        rintro (h | h)
        · exact hnot h
        · exact HO.out i hmem h
      have hmm := HM.out
      have htt := HTT.out
      have GV := Lib.hid (fun w H => pool_give A n i (backS S (is.drop (q + 1))) (t + ((k0 : Int) - (q + 1 : Nat))) (is.drop (q + 1) ++ fs) fa (wd i (S i).gen) (S i).gen w H a1 a2 (idxOf_wd (by omega) (by omega) (by omega) (by omega)) (tagOf_wd (by omega) (by omega) (by omega) (by omega)) a3 hSg hnfs (by omega))
      have hbc := Lib.hid (backS_cons S i (is.drop (q + 1)) hnot)
      have hcell : wr.cell? ⟨g, q, none⟩ = some (.int .i64 (wd i (S i).gen)) := (hO.cell hgl HG.out).trans (HC.out q i hi)
      have hcell2 : wr.drew.cell? ⟨g, q, none⟩ = some (.int .i64 (wd i (S i).gen)) := hcell
      have hp : wr.drew.cell? ⟨tb, 0, none⟩ = some (.pointer (some ⟨A.p, 0, none⟩)) := hT.blk.cell 0 rfl
      have HTd := Lib.hid (hT.plain (Only.drew [] wr))
      have HOd := Lib.hid (hO.trans (Only.drew A.all wr))
      have HDR := Lib.hid hdrop
      generalize wd (i : Int) (S i).gen = hv at *
      have hq1 : ((q + 1 : Nat) : Int) - 1 = q := by omega
      have hq2 : (0 : Int) ≤ q := by omega
      have hq3 : (q : Int) < k0 := by omega
      clear hT hO a1 a2 a3 a4 a5 hSg hnfs hmm htt hi hmem hdrop hnot hcell hm0
      rw [hq1]
      clear hq1
      go_upto_region 6 with fail
      go_still_tail 9, (by kernel_rfl)
      change wpList _ _ _ _ _ wr.drew
      generalize wr.drew = w2 at *
      go_wp2_with fail
      refine (GV.out _ HTd.out.pool).mono ?_
      rintro e w3 ⟨rfl, hP3, hO3⟩
      have HP3 := Lib.hid hP3
      have HO3 := Lib.hid hO3
      clear hP3 hO3 hcell2 hp
      go_wp2_with fail
      go_roundg q
      case measure => have := HK.out; omega
      case rel =>
        refine ⟨q, by omega, rfl, by first | rfl | go_num, ?_, HOd.out.trans HO3.out⟩
        have hP := HP3.out
        rw [hbc.out] at hP
        rw [HDR.out]
        refine ⟨HTd.out.blk.only HO3.out HT.out.off, ?_, HT.out.off⟩
        have e1 : t + ((k0 : Int) - (q + 1 : Nat)) + 1 = t + ((k0 : Int) - q) := by omega
        rw [e1] at hP
        exact hP
    · have hm00 : m = 0 := by omega
      subst hm00
      clear hm0
      have HTT2 := Lib.hid hT
      have HO2 := Lib.hid hO
      clear hT hO
      go_wp2_with fail
      go_ret
      refine ⟨rfl, ?_, HO2.out⟩
      have := HTT2.out
      rw [List.drop_zero] at this
      have e1 : t + ((k0 : Int) - (0 : Nat)) = t + k0 := by omega
      rw [e1] at this
      exact this

theorem trie_undo_none {tb : Nat} {a : Option Addr} {cap : Nat} (w : World) : Calls Try.prog 21 #[.pointer (some ⟨tb, 0, none⟩), .pointer none, .slice a 0 cap] w fun e w' => e = .returned (.int .i64 0) ∧ w = w' := by
  go_enter Try.func21, Try.ntmps21
  go_wp2_with fail
  refine (trie_none 0 _).mono ?_
  rintro e w' ⟨rfl, rfl⟩
  go_wp2_with fail
  go_ret
  exact ⟨rfl, rfl⟩

end Go.Proofs.Ytacegkjobfeiiaa

