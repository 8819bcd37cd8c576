/- Count and Find of a map that may be empty: as calls. Conditions: the map stands in memory as TrAt and RepO say. · The handles of all of a map's nodes: nodes and Nodes as calls. Conditions: the map stands in memory as TrAt and RepO say. · What takes an iterator's pairs: given's closure as a call. Conditions: its variables stand in memory as GotP says. · A leaf's pair given, where it lies in the window; the next node read: walk at a leaf, under as calls. Conditions: all stands in memory as Wcx says. · All of a map's pairs in a window given: walk as a call. Conditions: all stands in memory as Wcx says. · Walk's iterator made, called with what takes the pairs, and given over it: as calls. Conditions: the map stands in memory as TrAt and RepO say; both keys are keys. -/
import Derived.Lib.MinMax
import Derived.Test.YtacegkjobfeiiaaCTrieEe
import Derived.Test.YtacegkjobfeiiaaCTrieEf
set_option linter.unusedVariables false
set_option linter.unusedSimpArgs false
set_option linter.unusedSectionVars false
set_option linter.unnecessarySimpa false
namespace Go.Proofs.Ytacegkjobfeiiaa
open Go.RowKit

set_option maxRecDepth 100000 in
set_option maxHeartbeats 4000000 in
theorem trie_count {A : PA} {n : Nat} {S : Nat → Sl} {t : Int} {fs : List Nat} {fa : Int} {tb : Nat} {ox : Option Tr} {w : World} (T : TrAt w tb A n S t fs fa) (R : RepO n S ox) :
    Calls Try.prog 38 #[.pointer (some ⟨tb, 0, none⟩), .pointer none, .int .i64 (rootOf S ox)] w fun e w' => e = .returned (.tuple #[.int .i64 ((prs ox).length : Nat), .int .i64 0]) ∧ Only [] w w' := by
  cases ox with
  | none =>
    show Calls _ _ #[_, _, .int .i64 0] _ _
    clear T R
    go_enter Try.func38, Try.ntmps38
    go_wp2_with fail
    refine (trie_none 0 _).mono ?_
    rintro e w1 ⟨rfl, rfl⟩
    go_wp2_with fail
    go_ret2
    exact ⟨rfl, Only.refl _ _⟩
  | some x =>
    have hp := hnd_pos R.1
    have HRT := Lib.hid (trie_root T R.1 R.2)
    have hcn := node_count S x
    obtain ⟨ty, sv, hsv⟩ := shV_one S x
    rw [ndV_agg, hsv] at HRT
    simp only [ndV_agg, hsv] at hcn
    have HCN := Lib.hid hcn
    have hln : (prs (some x)).length = x.cnt := Tr.cnt_pairs x
    rw [hln]
    show Calls _ _ #[_, _, .int .i64 (hnd S x)] _ _
    obtain ⟨hx, hhx⟩ : ∃ u, hnd S x = u := ⟨_, rfl⟩
    rw [hhx] at hp HRT HCN ⊢
    have e1 : (hx == 0) = false := by simp; omega
    clear T R hsv hcn hhx hln
    go_enter Try.func38, Try.ntmps38
    go_wp2_with fail
    refine HRT.out.mono ?_
    rintro e w1 ⟨rfl, hX1⟩
    go_upto_region 4 with fail
    refine wp_name (fun w2 => Blk w2 w1.heap.size #[.int .i64 hx, .iface ty sv] 125 ∧ Only [] w1 w2) ⟨Blk.new _ _ _, Only.alloc _ _ _⟩ ?_
    generalize w1.heap.size = nb
    rintro w2 ⟨hB, hX2⟩
    have HX := Lib.hid (hX1.trans hX2)
    have b0 := hB.cell 0 rfl
    have b1 := hB.cell 1 rfl
    clear hX1 hX2 hB
    go_wp2_with fail
    refine (HCN.out _).mono ?_
    rintro e w3 ⟨rfl, hX3⟩
    have HX3 := Lib.hid (HX.out.trans hX3)
    clear hX3 b0 b1
    go_wp2_with fail
    go_ret2
    exact ⟨rfl, HX3.out⟩

theorem find_val {n : Nat} {S : Nat → Sl} {x : Tr} (R : RepO n S (some x)) (k : Int) : (∀ i v, (down x k).2 = .leaf i k v → valL (prs (some x)) k = (v, true)) ∧ ((∀ i v, (down x k).2 ≠ .leaf i k v) → valL (prs (some x)) k = (0, false)) := by
  refine ⟨fun i v h => ?_, fun h => ?_⟩
  · have := way_old R.2 h
    exact Prod.ext this.1 this.2
  · have := way_none R.2 h
    exact Prod.ext this.1 this.2

set_option maxRecDepth 100000 in
set_option maxHeartbeats 4000000 in
theorem trie_find {A : PA} {n : Nat} {S : Nat → Sl} {t : Int} {fs : List Nat} {fa : Int} {tb : Nat} {ox : Option Tr} {k : Int} {w : World} (T : TrAt w tb A n S t fs fa) (R : RepO n S ox) (hk : InK k) :
    Calls Try.prog 39 #[.pointer (some ⟨tb, 0, none⟩), .pointer none, .int .i64 (rootOf S ox), .int .i64 k] w fun e w' => e = .returned (.tuple #[.int .i64 (valL (prs ox) k).1, .bool (valL (prs ox) k).2, .int .i64 0]) ∧ Only [] w w' := by
  have hka : isK k = true := by simp [isK]; exact hk
  have HKEY := Lib.hid (fun w => trie_key k w)
  rw [hka] at HKEY
  cases ox with
  | none =>
    show Calls _ _ #[_, _, .int .i64 0, _] _ _
    have hv : valL (prs none) k = (0, false) := rfl
    rw [hv]
    clear T R hka hk hv
    go_enter Try.func39, Try.ntmps39
    go_wp2_with fail
    refine (HKEY.out _).mono ?_
    rintro e w1 ⟨rfl, rfl⟩
    go_wp2_with fail
    refine (trie_none 0 _).mono ?_
    rintro e w2 ⟨rfl, rfl⟩
    go_wp2_with fail
    go_ret3
    exact ⟨rfl, Only.refl _ _⟩
  | some x =>
    have hp := hnd_pos R.1
    have HDN := Lib.hid (trie_down (k := k) T R.1 R.2)
    have HFV := Lib.hid (find_val R k)
    obtain ⟨fv, hfv⟩ : ∃ u, (valL (prs (some x)) k).1 = u := ⟨_, rfl⟩
    obtain ⟨fb, hfb⟩ : ∃ u, (valL (prs (some x)) k).2 = u := ⟨_, rfl⟩
    rw [hfv, hfb]
    have HVV := Lib.hid (show valL (prs (some x)) k = (fv, fb) from Prod.ext hfv hfb)
    show Calls _ _ #[_, _, .int .i64 (hnd S x), _] _ _
    obtain ⟨hx, hhx⟩ : ∃ u, hnd S x = u := ⟨_, rfl⟩
    rw [hhx] at hp HDN ⊢
    have e1 : (hx == 0) = false := by simp; omega
    clear T R hhx hka hk hfv hfb
    go_enter Try.func39, Try.ntmps39
    go_wp2_with fail
    refine (HKEY.out _).mono ?_
    rintro e w1 ⟨rfl, rfl⟩
    go_wp2_with fail
    refine HDN.out.mono ?_
    rintro e w2 ⟨way, rfl, hown, hX2⟩
    obtain ⟨ad, cap, rfl, _, _⟩ := own_steps hown
    obtain ⟨nn, hnn⟩ : ∃ nn, (down x k).2 = nn := ⟨_, rfl⟩
    obtain ⟨ty, sv, hsv⟩ := shV_one S nn
    obtain ⟨a0, v0, ok, hta, hok1, hok2⟩ := assertL_any S nn
    have hta := hta ty sv hsv
    rw [hnn, ndV_agg, hsv]
    obtain ⟨hn, hhn⟩ : ∃ u, hnd S nn = u := ⟨_, rfl⟩
    rw [hhn]
    have HNN := Lib.hid hnn
    have HOK := Lib.hid (And.intro hok1 hok2)
    have HX2 := Lib.hid hX2
    clear hown hX2 hnn hsv hok1 hok2 hhn HDN HKEY
    go_upto_region 9 with fail
    refine wp_name (fun w3 => Blk w3 (w2.heap.size + 1) #[.int .i64 a0, .int .i64 v0] 129 ∧ Only [] w2 w3) ⟨?_, (Only.alloc [] _ _).trans (Only.alloc [] _ _)⟩ ?_
    · have := Blk.new (w2.alloc (.cells #[.int .i64 hn, .iface ty sv] 125)) #[.int .i64 a0, .int .i64 v0] 129
      simpa using this
    generalize w2.heap.size + 1 = lb
    rintro w3 ⟨hL, hX3⟩
    have HX3 := Lib.hid (HX2.out.trans hX3)
    have l0 := hL.cell 0 rfl
    have l1 := hL.cell 1 rfl
    clear hL hX3 hta
    by_cases hit : ok = true ∧ a0 = k
    · obtain ⟨rfl, rfl⟩ := hit
      obtain ⟨i, hi⟩ := HOK.out.1 rfl
      have hv := HFV.out.1 i v0 (by rw [HNN.out, hi])
      rw [HVV.out] at hv
      obtain ⟨rfl, rfl⟩ := Prod.mk.inj hv
      have e4 : (a0 == a0) = true := by simp
      clear hi hv
      go_wp2_with fail
      go_ret3
      exact ⟨rfl, HX3.out⟩
    · have hv := HFV.out.2 (fun i v h => hit (by
        rw [HNN.out] at h
        have h2 := HOK.out.2
        cases ok with
        | false => exact absurd h (h2 rfl i k v)
        | true =>
          obtain ⟨j, hj⟩ := HOK.out.1 rfl
          rw [h] at hj
          injection hj with _ h5 _
          exact ⟨rfl, h5.symm⟩))
      rw [HVV.out] at hv
      obtain ⟨rfl, rfl⟩ := Prod.mk.inj hv
      cases ok
      · clear hv hit
        go_wp2_with fail
        go_ret3
        exact ⟨rfl, HX3.out⟩
      · have e4 : (a0 == k) = false := by simp; exact fun e => hit ⟨rfl, e⟩
        clear hv hit
        go_wp2_with fail
        go_ret3
        exact ⟨rfl, HX3.out⟩

end Go.Proofs.Ytacegkjobfeiiaa

namespace Go.Proofs.Ytacegkjobfeiiaa
open Go.RowKit

/-- More handles in a row of the call's own. -/
def NodesPost (S : Nat → Sl) (base : Nat) (x : Tr) (xs : List Value) (v : Value) (w : World) (e : Ending) (w' : World) : Prop :=
  ∃ v', e = .returned (.tuple #[v', .int .i64 0]) ∧ w'.ownsRow base 3 1 v' (xs.length + x.slots.length) (xs ++ (hnds S x.slots).map (Value.int .i64)) ∧ Only v.ownBlock.toList w w' ∧ ∀ b, v'.ownBlock = some b → v.ownBlock = some b ∨ w.heap.size ≤ b

set_option maxRecDepth 100000 in
set_option maxHeartbeats 4000000 in
theorem nodes_in {A : PA} {n : Nat} {S : Nat → Sl} {t : Int} {fs : List Nat} {fa : Int} {tb base : Nat} (x : Tr) : ∀ {v : Value} {xs : List Value} {w : World}, TrAt w tb A n S t fs fa → Rep n S x → x.wf → w.ownsRow base 3 1 v xs.length xs → xs.length + x.slots.length ≤ 1000000 → base ≤ w.heap.size → (∀ k, k ∈ A.all → k < base) → tb < base →
    Calls Try.prog 64 #[.pointer (some ⟨tb, 0, none⟩), .pointer none, ndV S x, v] w (NodesPost S base x xs v w) := by
  induction x with
  | leaf i k u =>
    intro v xs w T R wf hown hl hb hA hT
    obtain ⟨i0, hi0, hz0, hz1, hz2⟩ := info_parts info_int
    have hta := assert_leaf k u
    have hsl : (hnds S (Tr.leaf i k u).slots).map (Value.int .i64) = [.int .i64 (hnd S (.leaf i k u))] := rfl
    have hln : (Tr.leaf i k u).slots.length = 1 := rfl
    have HSL := Lib.hid (And.intro hsl hln)
    obtain ⟨m, hm⟩ : ∃ m, xs.length = m := ⟨_, rfl⟩
    rw [hm] at hown hl
    rw [hln] at hl
    have HM := Lib.hid hm
    have HOWN := Lib.hid hown
    rw [ndV_agg]
    show Calls _ _ #[_, _, .agg #[.int .i64 (hnd S (.leaf i k u)), .iface 129 (.agg #[.int .i64 k, .int .i64 u])], _] _ _
    obtain ⟨hx, hhx⟩ : ∃ q, hnd S (.leaf i k u) = q := ⟨_, rfl⟩
    rw [hhx] at HSL ⊢
    clear T R wf hown hA hT hhx hm hsl hln
    go_enter Try.func64, Try.ntmps64
    go_upto_region 1 with fail
    refine wp_name (fun w1 => Blk w1 w.heap.size #[.int .i64 hx, .iface 129 (.agg #[.int .i64 k, .int .i64 u])] 125 ∧ Only [] w w1) ⟨Blk.new _ _ _, Only.alloc _ _ _⟩ ?_
    obtain ⟨nb, hnb⟩ : ∃ b, w.heap.size = b := ⟨_, rfl⟩
    have HNB := Lib.hid hnb
    rw [hnb]
    rw [hnb] at hb
    clear hnb
    rintro w1 ⟨hB, hX1⟩
    have b0 := hB.cell 0 rfl
    have HB := Lib.hid hB
    have HX1 := Lib.hid hX1
    have HO1 := Lib.hid (ownsRow_only HOWN.out hX1 (by simp))
    have hs1 : nb < w1.heap.size := hB.lt
    clear hB hX1
    go_upto_region 2 with (at_builtin; refine wpList_append_any (by rfl) (.tmp 16) (.tmp 19) 36 (by rfl) base 3 i0 _ 1 8 Try.underlying36 hi0 hz0 hz1 hz2 rfl (by decide) _ m xs rfl (HO1.out.alloc _) (some ⟨w1.heap.size, 0, none⟩) 1 1 [.int .i64 hx] rfl rfl (fun e => by cases e) (fun ad e => by cases e; exact cell_one_new _ _ _) (fun u hu => by simp at hu; subst hu; rfl) (by unfold maxLen; omega) (by omega) (by simp; omega) ?_)
    intro v2 w2 hown2 hX2 hat2
    have hX : Only v.ownBlock.toList w1 w2 := (Only.alloc _ w1 _).trans hX2
    have hbn : nb ∉ v.ownBlock.toList := fun hm => by have := (HOWN.out.lt nb (by simpa using hm)).2; have := HNB.out; omega
    have b1 := (HB.out.only hX hbn).cell 1 rfl
    have HO2 := Lib.hid hown2
    have HX2 := Lib.hid ((HX1.out.mono (by simp)).trans hX)
    have HAT : Hid (∀ b, v2.ownBlock = some b → v.ownBlock = some b ∨ w.heap.size ≤ b) := Lib.hid (fun b hb => by
      rcases hat2 b hb with h | h
      · exact Or.inl h
      · right; have h3 : w1.heap.size + 1 ≤ b := by simpa using h
        have := HX1.out.size; omega)
    clear hown2 hX2 hat2 hX hbn b0
    go_wp2_with fail
    go_ret2
    refine ⟨_, rfl, ?_, HX2.out.trans (Only.alloc _ _ _), HAT.out⟩
    rw [HSL.out.1, HSL.out.2, HM.out]
    exact HO2.out.alloc _
  | node i p f l r ihl ihr =>
    intro v xs w T R wf hown hl hb hA hT
    obtain ⟨i0, hi0, hz0, hz1, hz2⟩ := info_parts info_int
    have HLE := Lib.hid (fun w T => @trie_left A n S t fs fa tb i p f l r w T R wf (hnd S r) ((Tr.node i p f l r).cnt : Nat))
    have HRI := Lib.hid (fun w T => @trie_right A n S t fs fa tb i p f l r w T R wf (hnd S l) ((Tr.node i p f l r).cnt : Nat))
    have hta := assert_inner p f (hnd S l) (hnd S r) ((Tr.node i p f l r).cnt : Nat)
    have HIN := Lib.hid (show TrAt w tb A n S t fs fa ∧ Rep n S l ∧ Rep n S r ∧ l.wf ∧ r.wf ∧ (∀ k, k ∈ A.all → k < base) ∧ tb < base from ⟨T, R.2.2.2.2.2.1, R.2.2.2.2.2.2, wf.2.2.2.2.1, wf.2.2.2.2.2.1, hA, hT⟩)
    have IHL := Lib.hid (fun (v : Value) (xs : List Value) (w : World) => @ihl v xs w)
    have IHR := Lib.hid (fun (v : Value) (xs : List Value) (w : World) => @ihr v xs w)
    unfold innerV at HLE HRI
    have hsl : (hnds S (Tr.node i p f l r).slots).map (Value.int .i64) = .int .i64 (hnd S (.node i p f l r)) :: ((hnds S l.slots).map (Value.int .i64) ++ (hnds S r.slots).map (Value.int .i64)) := by simp [hnds, Tr.slots, hnd, Tr.slot]
    have hln : (Tr.node i p f l r).slots.length = 1 + (l.slots.length + r.slots.length) := by simp [Tr.slots]; omega
    have HSL := Lib.hid (And.intro hsl hln)
    obtain ⟨m, hm⟩ : ∃ m, xs.length = m := ⟨_, rfl⟩
    rw [hm] at hown hl
    rw [hln] at hl
    have HM := Lib.hid hm
    have HOWN := Lib.hid hown
    rw [ndV_agg]
    show Calls _ _ #[_, _, .agg #[.int .i64 (hnd S (.node i p f l r)), .iface 135 (.agg #[.int .i64 p, .int .i64 f, .int .i64 (hnd S l), .int .i64 (hnd S r), .int .i64 ((Tr.node i p f l r).cnt : Nat)])], _] _ _
    obtain ⟨hx, hhx⟩ : ∃ q, hnd S (.node i p f l r) = q := ⟨_, rfl⟩
    obtain ⟨vl, hvl⟩ : ∃ q, hnd S l = q := ⟨_, rfl⟩
    obtain ⟨vr, hvr⟩ : ∃ q, hnd S r = q := ⟨_, rfl⟩
    obtain ⟨vc, hvc⟩ : ∃ q, (((Tr.node i p f l r).cnt : Nat) : Int) = q := ⟨_, rfl⟩
    obtain ⟨pp, hpp⟩ : ∃ q, ((p : Nat) : Int) = q := ⟨_, rfl⟩
    rw [hvl, hvr, hvc, hpp] at HLE HRI hta
    rw [hhx] at HSL ⊢
    rw [hvl, hvr, hvc, hpp]
    obtain ⟨tyl, svl, hsvl⟩ := shV_one S l
    obtain ⟨tyr, svr, hsvr⟩ := shV_one S r
    simp only [ndV_agg, hsvl, hvl] at HLE
    simp only [ndV_agg, hsvr, hvr] at HRI
    simp only [ndV_agg, hsvl, hvl] at IHL
    simp only [ndV_agg, hsvr, hvr] at IHR
    clear ihl ihr hvl hvr hvc hpp hsvl hsvr
    clear T R wf hown hA hT hhx hm hsl hln
    go_enter Try.func64, Try.ntmps64
    go_upto_region 1 with fail
    refine wp_name (fun w1 => Blk w1 w.heap.size #[.int .i64 hx, .iface 135 (.agg #[.int .i64 pp, .int .i64 f, .int .i64 vl, .int .i64 vr, .int .i64 vc])] 125 ∧ Only [] w w1) ⟨Blk.new _ _ _, Only.alloc _ _ _⟩ ?_
    obtain ⟨nb, hnb⟩ : ∃ b, w.heap.size = b := ⟨_, rfl⟩
    have HNB := Lib.hid hnb
    rw [hnb]
    rw [hnb] at hb
    clear hnb
    rintro w1 ⟨hB, hX1⟩
    have b0 := hB.cell 0 rfl
    have HB := Lib.hid hB
    have HX1 := Lib.hid hX1
    have HO1 := Lib.hid (ownsRow_only HOWN.out hX1 (by simp))
    have hs1 : nb < w1.heap.size := hB.lt
    clear hB hX1
    go_upto_region 2 with (at_builtin; refine wpList_append_any (by rfl) (.tmp 16) (.tmp 19) 36 (by rfl) base 3 i0 _ 1 8 Try.underlying36 hi0 hz0 hz1 hz2 rfl (by decide) _ m xs rfl (HO1.out.alloc _) (some ⟨w1.heap.size, 0, none⟩) 1 1 [.int .i64 hx] rfl rfl (fun e => by cases e) (fun ad e => by cases e; exact cell_one_new _ _ _) (fun u hu => by simp at hu; subst hu; rfl) (by unfold maxLen; omega) (by omega) (by simp; omega) ?_)
    intro v2 w2 hown2 hX2 hat2
    have hX : Only v.ownBlock.toList w1 w2 := (Only.alloc _ w1 _).trans hX2
    have hbn : nb ∉ v.ownBlock.toList := fun hm => by have := (HOWN.out.lt nb (by simpa using hm)).2; have := HNB.out; omega
    have b1 := (HB.out.only hX hbn).cell 1 rfl
    have HO2 := Lib.hid hown2
    have HX2 := Lib.hid ((HX1.out.mono (by simp)).trans hX)
    have HAT : Hid (∀ b, v2.ownBlock = some b → v.ownBlock = some b ∨ w.heap.size ≤ b) := Lib.hid (fun b hb => by
      rcases hat2 b hb with h | h
      · exact Or.inl h
      · right; have h3 : w1.heap.size + 1 ≤ b := by simpa using h
        have := HX1.out.size; omega)
    clear hown2 hX2 hat2 hX hbn b0
    have hmf : ∀ (fn : Fn) (first cap : Array Value) (w : World), (Instr.makeFunc fn first cap).run Try.prog w = .ok (.func fn first cap) w := fun _ _ _ _ => rfl
    go_upto_region 6 with fail
    refine wp_name (fun w4 => Blk w4 w2.heap.size #[.int .i64 pp, .int .i64 f, .int .i64 vl, .int .i64 vr, .int .i64 vc] 135 ∧ Blk w4 (w2.heap.size + 1) #[.func (.func 55) #[.pointer (some ⟨tb, 0, none⟩)] #[], .func (.func 56) #[.pointer (some ⟨tb, 0, none⟩)] #[]] 147 ∧ Only [] w2 w4) ⟨(Blk.new _ _ _).alloc _, ?_, (Only.alloc [] _ _).trans (Only.alloc [] _ _)⟩ ?_
    · have := Blk.new (w2.alloc (.cells #[.int .i64 pp, .int .i64 f, .int .i64 vl, .int .i64 vr, .int .i64 vc] 135)) #[.func (.func 55) #[.pointer (some ⟨tb, 0, none⟩)] #[], .func (.func 56) #[.pointer (some ⟨tb, 0, none⟩)] #[]] 147
      simpa using this
    obtain ⟨ib, hib⟩ : ∃ b, w2.heap.size = b := ⟨_, rfl⟩
    have hibl : w.heap.size ≤ ib := by have := HX2.out.size; omega
    have HIB : Hid (∀ b, v2.ownBlock = some b → b < ib) := Lib.hid (fun b hb => by have := (HO2.out.lt b hb).2; omega)
    rw [hib]
    clear hib b1 hta hmf
    rintro w4 ⟨hI, hF, hX4⟩
    have hXw4 : Only v.ownBlock.toList w w4 := HX2.out.trans (hX4.mono (by simp))
    have hT4 := HIN.out.1.other hXw4 (fun hm => by have := (HOWN.out.lt tb (by simpa using hm)).1; have := HIN.out.2.2.2.2.2.2; omega) (fun k hk hm => by have := (HOWN.out.lt k (by simpa using hm)).1; have := HIN.out.2.2.2.2.2.1 k hk; omega)
    have HT4 := Lib.hid hT4
    have HI4 := Lib.hid hI
    have HF4 := Lib.hid hF
    have HO4 := Lib.hid (ownsRow_only HO2.out hX4 (by simp))
    have HX4 := Lib.hid hXw4
    have hs4 : ib < w4.heap.size ∧ w.heap.size ≤ w4.heap.size := ⟨hI.lt, hXw4.size⟩
    have HS4 := Lib.hid hs4
    have f0 := hF.cell 0 rfl
    have i0c := hI.cell 0 rfl
    have i1c := hI.cell 1 rfl
    have i2c := hI.cell 2 rfl
    have i3c := hI.cell 3 rfl
    have i4c := hI.cell 4 rfl
    clear hI hF hX4 hXw4 hT4 hs4 hs1
    refine wp_loop_rounds 3 ?_
    rw [rounds_succ]
    go_wp2_with fail
    refine (HLE.out _ HT4.out).mono ?_
    rintro e w5 ⟨rfl, hX5⟩
    go_upto_region 9 with fail
    refine wp_name (fun w6 => Blk w6 w5.heap.size #[.int .i64 vl, .iface tyl svl] 125 ∧ Only [] w4 w6) ⟨Blk.new _ _ _, hX5.trans (Only.alloc _ _ _)⟩ ?_
    generalize w5.heap.size = n5
    clear hX5
    rintro w6 ⟨hN, hX6⟩
    have hO6 := ownsRow_only HO4.out hX6 (by simp)
    have HC1 := Lib.hid (IHL.out _ (xs ++ [.int .i64 hx]) _ (HT4.out.plain hX6) HIN.out.2.1 HIN.out.2.2.2.1 (by rw [List.length_append, HM.out]; exact hO6) (by rw [List.length_append, HM.out]; simp; omega) (by have := hX6.size; have := HS4.out; have := HNB.out; omega) HIN.out.2.2.2.2.2.1 HIN.out.2.2.2.2.2.2)
    have HI6 := Lib.hid (HI4.out.only hX6 (by simp))
    have HF6 := Lib.hid (HF4.out.only hX6 (by simp))
    have HX6 := Lib.hid (HX4.out.trans (hX6.mono (by simp)))
    have HT6 := Lib.hid (HT4.out.plain hX6)
    have m0 := hN.cell 0 rfl
    have m1 := hN.cell 1 rfl
    clear hN hX6 hO6 f0 i0c i1c i2c i3c i4c HI4 HF4 HX4 HO4
    go_wp2_with fail
    refine HC1.out.mono ?_
    rintro e w7 ⟨v7, rfl, hO7, hX7, hat7⟩
    have hoff : ∀ b, ib ≤ b → b ∉ v2.ownBlock.toList := fun b hb hm => by have := HIB.out b (by simpa using hm); omega
    have hI7 := HI6.out.only hX7 (hoff _ (Nat.le_refl _))
    have hF7 := HF6.out.only hX7 (hoff _ (by omega))
    have HT7 := Lib.hid (HT6.out.other hX7 (fun hm => by have := (HO2.out.lt tb (by simpa using hm)).1; have := HIN.out.2.2.2.2.2.2; omega) (fun k hk hm => by have := (HO2.out.lt k (by simpa using hm)).1; have := HIN.out.2.2.2.2.2.1 k hk; omega))
    have HI7 := Lib.hid hI7
    have HF7 := Lib.hid hF7
    have HO7 := Lib.hid hO7
    have HX7 : Hid (Only v.ownBlock.toList w w7) := Lib.hid (HX6.out.past hX7 (fun b hb => by
      rcases HAT.out b (by simpa using hb) with h | h
      · exact Or.inl (by simpa using h)
      · exact Or.inr h))
    have HAT7 : Hid (∀ b, v7.ownBlock = some b → v.ownBlock = some b ∨ w.heap.size ≤ b) := Lib.hid (fun b hb => by
      rcases hat7 b hb with h | h
      · exact HAT.out b h
      · right; have := HX6.out.size; omega)
    have f1 := hF7.cell 1 rfl
    have i0c := hI7.cell 0 rfl
    have i1c := hI7.cell 1 rfl
    have i2c := hI7.cell 2 rfl
    have i3c := hI7.cell 3 rfl
    have i4c := hI7.cell 4 rfl
    clear hO7 hX7 hat7 hI7 hF7 m0 m1 HC1 HI6 HF6 HT6 hoff HX6
    go_wp2_with fail
    rw [rounds_succ]
    go_wp2_with fail
    refine (HRI.out _ HT7.out).mono ?_
    rintro e w8 ⟨rfl, hX8⟩
    go_upto_region 9 with fail
    refine wp_name (fun w9 => Blk w9 w8.heap.size #[.int .i64 vr, .iface tyr svr] 125 ∧ Only [] w7 w9) ⟨Blk.new _ _ _, hX8.trans (Only.alloc _ _ _)⟩ ?_
    generalize w8.heap.size = n8
    clear hX8
    rintro w9 ⟨hN, hX9⟩
    have hO9 := ownsRow_only HO7.out hX9 (by simp)
    have hxl : (xs ++ [Value.int .i64 hx] ++ (hnds S l.slots).map (Value.int .i64)).length = (xs ++ [Value.int .i64 hx]).length + l.slots.length := by simp [hnds]; omega
    have HC2 := Lib.hid (IHR.out _ (xs ++ [.int .i64 hx] ++ (hnds S l.slots).map (Value.int .i64)) _ (HT7.out.plain hX9) HIN.out.2.2.1 HIN.out.2.2.2.2.1 (by rw [hxl]; exact hO9) (by rw [hxl, List.length_append, HM.out]; simp; omega) (by have := hX9.size; have := HX7.out.size; have := HNB.out; omega) HIN.out.2.2.2.2.2.1 HIN.out.2.2.2.2.2.2)
    have HX9 := Lib.hid (HX7.out.trans (hX9.mono (by simp)))
    have HXL := Lib.hid hxl
    have m0 := hN.cell 0 rfl
    have m1 := hN.cell 1 rfl
    clear hN hX9 hO9 f1 i0c i1c i2c i3c i4c HI7 HF7 HX7 HO7 hxl
    go_wp2_with fail
    refine HC2.out.mono ?_
    rintro e wa ⟨va, rfl, hOa, hXa, hata⟩
    have HOa := Lib.hid hOa
    have HXa : Hid (Only v.ownBlock.toList w wa) := Lib.hid (HX9.out.past hXa (fun b hb => by
      rcases HAT7.out b (by simpa using hb) with h | h
      · exact Or.inl (by simpa using h)
      · exact Or.inr h))
    have HATa : Hid (∀ b, va.ownBlock = some b → v.ownBlock = some b ∨ w.heap.size ≤ b) := Lib.hid (fun b hb => by
      rcases hata b hb with h | h
      · exact HAT7.out b h
      · right; have := HX9.out.size; omega)
    clear hOa hXa hata m0 m1 HC2
    go_wp2_with fail
    rw [rounds_succ]
    go_wp2_with fail
    go_ret2
    refine ⟨_, rfl, ?_, HXa.out, HATa.out⟩
    have hfin := HOa.out
    rw [HXL.out, List.length_append] at hfin
    rw [HSL.out.1, HSL.out.2]
    have e1 : xs.length + (1 + (l.slots.length + r.slots.length)) = xs.length + [Value.int .i64 hx].length + l.slots.length + r.slots.length := by simp; omega
    rw [e1]
    simpa [List.append_assoc] using hfin

/-- The handles of a map's nodes. -/
def hndO (S : Nat → Sl) (ox : Option Tr) : List Int := hnds S (slotsO ox)

set_option maxRecDepth 100000 in
set_option maxHeartbeats 4000000 in
theorem trie_nodes {A : PA} {n : Nat} {S : Nat → Sl} {t : Int} {fs : List Nat} {fa : Int} {tb : Nat} {ox : Option Tr} {w : World} (T : TrAt w tb A n S t fs fa) (R : RepO n S ox) (hl : (slotsO ox).length ≤ 1000000) :
    Calls Try.prog 35 #[.pointer (some ⟨tb, 0, none⟩), .pointer none, .int .i64 (rootOf S ox)] w fun e w' => ∃ v', e = .returned (.tuple #[v', .int .i64 0]) ∧ w'.ownsRow w.heap.size 3 1 v' (slotsO ox).length ((hndO S ox).map (Value.int .i64)) ∧ Only [] w w' := by
  cases ox with
  | none =>
    show Calls _ _ #[_, _, .int .i64 0] _ _
    clear T R
    go_enter Try.func35, Try.ntmps35
    go_wp2_with fail
    refine (trie_none 0 _).mono ?_
    rintro e w1 ⟨rfl, rfl⟩
    go_wp2_with fail
    go_ret2
    exact ⟨_, rfl, World.ownsRow_nil _ _ _ _, Only.refl _ _⟩
  | some x =>
    have hp := hnd_pos R.1
    have HRT := Lib.hid (trie_root T R.1 R.2)
    obtain ⟨ty, sv, hsv⟩ := shV_one S x
    rw [ndV_agg, hsv] at HRT
    have HSV := Lib.hid hsv
    have HIN := Lib.hid (show TrAt w tb A n S t fs fa ∧ Rep n S x ∧ x.wf ∧ x.slots.length ≤ 1000000 from ⟨T, R.1, R.2, hl⟩)
    show Calls _ _ #[_, _, .int .i64 (hnd S x)] _ _
    obtain ⟨hx, hhx⟩ : ∃ u, hnd S x = u := ⟨_, rfl⟩
    rw [hhx] at hp HRT ⊢
    have HHX := Lib.hid hhx
    have e1 : (hx == 0) = false := by simp; omega
    clear T R hsv hhx hl
    go_enter Try.func35, Try.ntmps35
    go_wp2_with fail
    refine HRT.out.mono ?_
    rintro e w1 ⟨rfl, hX1⟩
    go_upto_region 4 with fail
    refine wp_name (fun w2 => Blk w2 w1.heap.size #[.int .i64 hx, .iface ty sv] 125 ∧ Only [] w1 w2) ⟨Blk.new _ _ _, Only.alloc _ _ _⟩ ?_
    generalize w1.heap.size = nb
    rintro w2 ⟨hB, hX2⟩
    have hX := hX1.trans hX2
    have HC := Lib.hid (nodes_in (base := w2.heap.size) (v := .slice none 0 0) (xs := []) x (HIN.out.1.plain hX) HIN.out.2.1 HIN.out.2.2.1 (World.ownsRow_nil _ _ _ _) (by simpa using HIN.out.2.2.2) (Nat.le_refl _) (HIN.out.1.plain hX).lt.2 (HIN.out.1.plain hX).lt.1)
    rw [ndV_agg, HSV.out, HHX.out] at HC
    have HX := Lib.hid hX
    have b0 := hB.cell 0 rfl
    have b1 := hB.cell 1 rfl
    clear hX1 hX2 hB hX
    go_wp2_with fail
    refine HC.out.mono ?_
    rintro e w3 ⟨v3, rfl, hO3, hX3, _⟩
    have HO3 := Lib.hid hO3
    have HX3 := Lib.hid (HX.out.trans hX3)
    clear hO3 hX3 b0 b1 HC
    go_wp2_with fail
    go_ret2
    refine ⟨_, rfl, ?_, HX3.out⟩
    have := own_weaken HO3.out HX.out.size
    simpa [slotsO, hndO] using this

end Go.Proofs.Ytacegkjobfeiiaa

namespace Go.Proofs.Ytacegkjobfeiiaa
open Go.RowKit

/-- given's variables: nothing has ended, all is well, L has come. -/
structure GotP (w : World) (eb wb xb ob nb base : Nat) (v : Value) (L : List KV) : Prop where
  e : Blk w eb #[.bool false] 4
  wl : Blk w wb #[.bool true] 4
  x : Blk w xb #[.int .i64 0] 3
  o : Blk w ob #[v] 31
  n : Blk w nb #[.int .i64 (-1)] 3
  own : w.ownsRow base 56 2 v L.length (prsC L)
  apart : eb ≠ ob ∧ eb ≠ nb ∧ ob ≠ nb ∧ eb ≠ wb ∧ eb ≠ xb ∧ ob ≠ wb ∧ ob ≠ xb
  out : ∀ b, v.ownBlock = some b → b ≠ eb ∧ b ≠ wb ∧ b ≠ xb ∧ b ≠ ob ∧ b ≠ nb

def gotP (eb wb xb ob nb : Nat) (v : Value) : List Nat := eb :: wb :: xb :: ob :: nb :: v.ownBlock.toList

theorem GotP.only {w w' : World} {eb wb xb ob nb base : Nat} {v : Value} {L : List KV} {X : List Nat} (h : GotP w eb wb xb ob nb base v L) (o : Only X w w') (hn : ∀ b, b ∈ gotP eb wb xb ob nb v → b ∉ X) : GotP w' eb wb xb ob nb base v L :=
  ⟨h.e.only o (hn _ (by simp [gotP])), h.wl.only o (hn _ (by simp [gotP])), h.x.only o (hn _ (by simp [gotP])), h.o.only o (hn _ (by simp [gotP])), h.n.only o (hn _ (by simp [gotP])), ownsRow_only h.own o (fun b hb => hn b (by simp [gotP, hb])), h.apart, h.out⟩

theorem GotP.lt {w : World} {eb wb xb ob nb base : Nat} {v : Value} {L : List KV} (h : GotP w eb wb xb ob nb base v L) : ∀ b, b ∈ gotP eb wb xb ob nb v → b < w.heap.size := by
  intro b hb
  simp only [gotP, List.mem_cons] at hb
  rcases hb with rfl | rfl | rfl | rfl | rfl | hb
  · exact h.e.lt
  · exact h.wl.lt
  · exact h.x.lt
  · exact h.o.lt
  · exact h.n.lt
  · exact (h.own.lt b (by simpa using hb)).2

/-- One change more has come. -/
def GotPPost (eb wb xb ob nb base : Nat) (v : Value) (L : List KV) (c : KV) (w : World) (e : Ending) (w' : World) : Prop :=
  e = .returned (.bool true) ∧ ∃ v', GotP w' eb wb xb ob nb base v' (L ++ [c]) ∧ Only (gotP eb wb xb ob nb v) w w' ∧ ∀ b, v'.ownBlock = some b → v.ownBlock = some b ∨ w.heap.size ≤ b

set_option maxRecDepth 100000 in
set_option maxHeartbeats 4000000 in
theorem gotp_one {eb wb xb ob nb base : Nat} {v : Value} {L : List KV} {c : KV} {w : World} (h : GotP w eb wb xb ob nb base v L) (hl : L.length ≤ 1000000) (hb : base ≤ w.heap.size) :
    Calls Try.prog 65 #[.agg #[.int .i64 c.1, .int .i64 c.2], .int .i64 0, .pointer (some ⟨eb, 0, none⟩), .pointer (some ⟨wb, 0, none⟩), .pointer (some ⟨xb, 0, none⟩), .pointer (some ⟨ob, 0, none⟩), .pointer (some ⟨nb, 0, none⟩)] w (GotPPost eb wb xb ob nb base v L c w) := by
  obtain ⟨i0, hi0, hz0, hz1, hz2⟩ := info_parts info_pair
  have HI0 := Lib.hid hi0
  obtain ⟨ck, hck⟩ : ∃ ck, c.1 = ck := ⟨_, rfl⟩
  obtain ⟨co, hco⟩ : ∃ co, c.2 = co := ⟨_, rfl⟩
  have HCC : Hid (prC c = [.int .i64 ck, .int .i64 co]) := Lib.hid (by unfold prC; rw [hck, hco])
  rw [hck, hco]
  have HH := Lib.hid h
  have HBB := Lib.hid hb
  have HLL := Lib.hid hl
  clear hck hco h hb hl hi0
  obtain ⟨xs, hxs⟩ : ∃ xs, prsC L = xs := ⟨_, rfl⟩
  have HXS := Lib.hid hxs
  clear hxs
  obtain ⟨m, hm⟩ : ∃ m, L.length = m := ⟨_, rfl⟩
  have HM := Lib.hid hm
  clear hm
  go_enter Try.func65, Try.ntmps65
  go_upto_region 1 with fail
  refine wp_name (fun w1 => GotP w1 eb wb xb ob nb base v L ∧ Blk w1 w.heap.size #[.int .i64 ck, .int .i64 co] 56 ∧ Only [] w w1) ⟨HH.out.only (Only.alloc [] _ _) (by simp), Blk.new _ _ _, Only.alloc _ _ _⟩ ?_
  have hgl := HH.out.lt
  have HGL := Lib.hid hgl
  obtain ⟨ab, hab⟩ : ∃ ab, w.heap.size = ab := ⟨_, rfl⟩
  have HAB := Lib.hid hab
  rw [hab]
  clear hgl hab
  rintro w1 ⟨hG1, hA1, hO1⟩
  have HG1 := Lib.hid hG1
  have HO1 := Lib.hid hO1
  have e0 := hG1.e.cell 0 rfl
  have o0 := hG1.o.cell 0 rfl
  have nn0 := hG1.n.cell 0 rfl
  have a0 := hA1.cell 0 rfl
  have a1 := hA1.cell 1 rfl
  have hi0 := HI0.out
  have how := hG1.own
  rw [HM.out, HXS.out] at how
  have HOW := Lib.hid how
  have hml : m ≤ 1000000 := by rw [← HM.out]; exact HLL.out
  have hbs : base ≤ w1.heap.size := Nat.le_trans HBB.out hO1.size
  clear hG1 hA1 hO1 how
  go_upto_region 4 with fail
  go_wp2_with (first | (go_at_call 8; refine (num_12 _ _).mono ?_; rintro e w' ⟨rfl, rfl⟩) | (at_builtin; refine wpList_append_own_at _ rfl (.tmp 16) (.tmp 18) 31 rfl base 56 i0 _ 2 16 Try.underlying31 hi0 hz0 hz1 hz2 rfl (by decide) _ _ _ rfl (HOW.out.alloc _) ⟨w1.heap.size, 0, none⟩ 1 1 [.int .i64 ck, .int .i64 co] rfl rfl (cells_pair _ _ _ _) (fun u hu => by simp at hu; rcases hu with rfl | rfl <;> rfl) (by unfold maxLen; omega) (by omega) (by simp; omega) ?_))
  intro v' w2 hown2 hg2 _ hat2
  obtain ⟨ad2, cap2, rfl⟩ := own_slice_any hown2
  have hX2 : Only v.ownBlock.toList w1 w2 := (Only.alloc _ _ _).trans (Only.of_grown hg2 (by intro k hk; simp [hk]))
  have hvn := HG1.out.out
  have hmem : ∀ b, b ∈ v.ownBlock.toList → v.ownBlock = some b := fun b hb => by simpa using hb
  have hE2 := HG1.out.e.only hX2 (fun hm => (hvn _ (hmem _ hm)).1 rfl)
  have hW2 := HG1.out.wl.only hX2 (fun hm => (hvn _ (hmem _ hm)).2.1 rfl)
  have hXX2 := HG1.out.x.only hX2 (fun hm => (hvn _ (hmem _ hm)).2.2.1 rfl)
  have hO2 := HG1.out.o.only hX2 (fun hm => (hvn _ (hmem _ hm)).2.2.2.1 rfl)
  have hN2 := HG1.out.n.only hX2 (fun hm => (hvn _ (hmem _ hm)).2.2.2.2 rfl)
  have hat : ∀ b, (Value.slice ad2 (m + 1) cap2).ownBlock = some b → v.ownBlock = some b ∨ w1.heap.size ≤ b := by
    intro b hb
    rcases hat2 with h | h
    · exact Or.inl (by rw [← h]; exact hb)
    · right
      rw [hb] at h
      simp at h
      omega
  have HAT := Lib.hid hat
  have hgl1 := HG1.out.lt
  have HGL1 := Lib.hid hgl1
  have hs12 : w1.heap.size ≤ w2.heap.size := hX2.size
  have e0 := hE2.cell 0 rfl
  have o0 := hO2.cell 0 rfl
  have nn0 := hN2.cell 0 rfl
  have fe := hE2.free 0
  have fo := hO2.free 0
  obtain ⟨q1, q2, q3, q4, q5, q6, q7⟩ := HG1.out.apart
  have HQ := Lib.hid HG1.out.apart
  have HE2 := Lib.hid hE2
  have HW2 := Lib.hid hW2
  have HXX2 := Lib.hid hXX2
  have HO2 := Lib.hid hO2
  have HN2 := Lib.hid hN2
  have HOW2 := Lib.hid hown2
  have HX2 := Lib.hid (HO1.out.mono (by simp) |>.trans hX2 : Only v.ownBlock.toList w w2)
  have hneq : (((m : Int) + 1) == -1) = false := by simp; omega
  have hneq2 : (((m + 1 : Nat) : Int) == -1) = false := by simp; omega
  have o1a : (w2.setCell ⟨ob, 0, none⟩ (.slice ad2 (m + 1) cap2)).cell? ⟨nb, 0, none⟩ = some (.int .i64 (-1)) := (hN2.set_other (a := ⟨ob, 0, none⟩) (fun e => q3 e.symm) _).cell 0 rfl
  have o1b : (w2.setCell ⟨ob, 0, none⟩ (.slice ad2 (m + 1) cap2)).cell? ⟨eb, 0, none⟩ = some (.bool false) := (hE2.set_other (a := ⟨ob, 0, none⟩) q1 _).cell 0 rfl
  clear hown2 hg2 hat2 hX2 hvn hmem hE2 hW2 hXX2 hO2 hN2 hat hgl1 a0 a1 hi0
  go_wp2_with fail
  go_ret
  have hX3 : Only [eb, ob] w2 ((w2.setCell ⟨ob, 0, none⟩ (.slice ad2 (m + 1) cap2)).setCell ⟨eb, 0, none⟩ (.bool false)) := (Only.setCell _ (by simp) _).trans (Only.setCell _ (by simp) _)
  have hvo : ∀ b, (Value.slice ad2 (m + 1) cap2).ownBlock = some b → b ≠ eb ∧ b ≠ wb ∧ b ≠ xb ∧ b ≠ ob ∧ b ≠ nb := by
    intro b hb
    rcases HAT.out b hb with h | h
    · exact HG1.out.out b h
    · have g1 := HGL1.out eb (by simp [gotP])
      have g2 := HGL1.out wb (by simp [gotP])
      have g3 := HGL1.out xb (by simp [gotP])
      have g4 := HGL1.out ob (by simp [gotP])
      have g5 := HGL1.out nb (by simp [gotP])
      refine ⟨?_, ?_, ?_, ?_, ?_⟩ <;> omega
  refine ⟨rfl, .slice ad2 (m + 1) cap2, ⟨?_, HW2.out.only hX3 (by simp; exact ⟨fun e => q4 e.symm, fun e => q6 e.symm⟩), HXX2.out.only hX3 (by simp; exact ⟨fun e => q5 e.symm, fun e => q7 e.symm⟩), ?_, HN2.out.only hX3 (by simp; exact ⟨fun e => q2 e.symm, fun e => q3 e.symm⟩), ?_, HQ.out, hvo⟩, ?_, ?_⟩
  · have := (HE2.out.set_other (a := ⟨ob, 0, none⟩) q1 (.slice ad2 (m + 1) cap2)).set_same 0 (.bool false)
    simpa using this
  · have := (HO2.out.set_same 0 (.slice ad2 (m + 1) cap2)).set_other (a := ⟨eb, 0, none⟩) (fun e => q1 e.symm) (.bool false)
    simpa using this
  · rw [prsC_append, List.length_append, HM.out, HXS.out, show prsC [c] = prC c by simp [prsC], HCC.out]
    exact ownsRow_only HOW2.out hX3 (fun b hb hm => by
      have := hvo b hb
      simp at hm
      rcases hm with rfl | rfl
      · exact this.1 rfl
      · exact this.2.2.2.1 rfl)
  · exact (HX2.out.mono (by intro b hb; simp only [gotP, List.mem_cons]; simp [hb])).trans (hX3.mono (by intro b hb; simp at hb; rcases hb with rfl | rfl <;> simp [gotP]))
  · intro b hb
    rcases HAT.out b hb with h | h
    · exact Or.inl h
    · exact Or.inr (by have := HO1.out.size; omega)

end Go.Proofs.Ytacegkjobfeiiaa

namespace Go.Proofs.Ytacegkjobfeiiaa
open Go.RowKit

/-- How many pairs. -/
def cntO : Option Tr → Nat
  | none => 0
  | some x => x.cnt

/-- The pairs with keys from lo to hi. -/
def win (lo hi : Int) (l : List KV) : List KV := l.filter fun x => decide (lo ≤ x.1 ∧ x.1 ≤ hi)

theorem win_append (lo hi : Int) (a b : List KV) : win lo hi (a ++ b) = win lo hi a ++ win lo hi b := by simp [win]
theorem win_length (lo hi : Int) (a : List KV) : (win lo hi a).length ≤ a.length := List.length_filter_le _ _

/-- given's closure for pairs as a value. -/
def yldP (eb wb xb ob nb : Nat) : Value := .func (.func 65) #[] #[.pointer (some ⟨eb, 0, none⟩), .pointer (some ⟨wb, 0, none⟩), .pointer (some ⟨xb, 0, none⟩), .pointer (some ⟨ob, 0, none⟩), .pointer (some ⟨nb, 0, none⟩)]

/-- What stands while pairs come: the map, given's variables. -/
structure Wcx (A : PA) (n : Nat) (S : Nat → Sl) (t : Int) (fs : List Nat) (fa : Int) (tb eb wb xb ob nb base : Nat) (v : Value) (L : List KV) (w : World) : Prop where
  tr : TrAt w tb A n S t fs fa
  got : GotP w eb wb xb ob nb base v L
  tn : tb ∉ gotP eb wb xb ob nb v
  an : ∀ k, k ∈ A.all → k ∉ gotP eb wb xb ob nb v
  base : base ≤ w.heap.size

/-- So many pairs more have come. -/
def WalkPost (eb wb xb ob nb base : Nat) (v : Value) (L M : List KV) (w : World) (e : Ending) (w' : World) : Prop :=
  e = .returned (.bool true) ∧ ∃ v', GotP w' eb wb xb ob nb base v' (L ++ M) ∧ Only (gotP eb wb xb ob nb v) w w' ∧ ∀ b, v'.ownBlock = some b → v.ownBlock = some b ∨ w.heap.size ≤ b

theorem Wcx.plain {A : PA} {n : Nat} {S : Nat → Sl} {t : Int} {fs : List Nat} {fa : Int} {tb eb wb xb ob nb base : Nat} {v : Value} {L : List KV} {w w' : World} (h : Wcx A n S t fs fa tb eb wb xb ob nb base v L w) (o : Only [] w w') : Wcx A n S t fs fa tb eb wb xb ob nb base v L w' :=
  ⟨h.tr.plain o, h.got.only o (by simp), h.tn, h.an, Nat.le_trans h.base o.size⟩

/-- A block that is older than the world and no variable's stays none, whatever has come. -/
theorem gotP_old {eb wb xb ob nb : Nat} {v v' : Value} {w : World} {b : Nat} (hb : b < w.heap.size) (hn : b ∉ gotP eb wb xb ob nb v) (hv : ∀ b, v'.ownBlock = some b → v.ownBlock = some b ∨ w.heap.size ≤ b) : b ∉ gotP eb wb xb ob nb v' := by
  intro hm
  apply hn
  simp only [gotP, List.mem_cons] at hm ⊢
  rcases hm with h | h | h | h | h | h
  · exact Or.inl h
  · exact Or.inr (Or.inl h)
  · exact Or.inr (Or.inr (Or.inl h))
  · exact Or.inr (Or.inr (Or.inr (Or.inl h)))
  · exact Or.inr (Or.inr (Or.inr (Or.inr (Or.inl h))))
  · rcases hv b (by simpa using h) with h1 | h1
    · exact Or.inr (Or.inr (Or.inr (Or.inr (Or.inr (by simp [h1])))))
    · omega

/-- Behind more pairs all stands as before. -/
theorem Wcx.more {A : PA} {n : Nat} {S : Nat → Sl} {t : Int} {fs : List Nat} {fa : Int} {tb eb wb xb ob nb base : Nat} {v : Value} {L M : List KV} {w w' : World} {e : Ending} (h : Wcx A n S t fs fa tb eb wb xb ob nb base v L w) (m : WalkPost eb wb xb ob nb base v L M w e w') :
    e = .returned (.bool true) ∧ ∃ v', Wcx A n S t fs fa tb eb wb xb ob nb base v' (L ++ M) w' ∧ Only (gotP eb wb xb ob nb v) w w' ∧ ∀ b, v'.ownBlock = some b → v.ownBlock = some b ∨ w.heap.size ≤ b := by
  obtain ⟨he, v', hG, hX, hv⟩ := m
  have hlt := h.tr.lt
  exact ⟨he, v', ⟨h.tr.other hX h.tn h.an, hG, gotP_old hlt.1 h.tn hv, fun k hk => gotP_old (hlt.2 k hk) (h.an k hk) hv, Nat.le_trans h.base hX.size⟩, hX, hv⟩

/-- Two walks, one behind the other. -/
theorem WalkPost.trans {eb wb xb ob nb base : Nat} {v v1 : Value} {L M M' : List KV} {w w1 w' : World} {e : Ending} (hX : Only (gotP eb wb xb ob nb v) w w1) (hv : ∀ b, v1.ownBlock = some b → v.ownBlock = some b ∨ w.heap.size ≤ b) (m : WalkPost eb wb xb ob nb base v1 (L ++ M) M' w1 e w') : WalkPost eb wb xb ob nb base v L (M ++ M') w e w' := by
  obtain ⟨he, v', hG, hX', hv'⟩ := m
  refine ⟨he, v', by rw [← List.append_assoc]; exact hG, hX.past hX' (fun i hi => ?_), fun b hb => ?_⟩
  · by_cases ho : i < w.heap.size
    · left
      by_cases hm : i ∈ gotP eb wb xb ob nb v
      · exact hm
      · exact absurd hi (gotP_old ho hm hv)
    · right; omega
  · rcases hv' b hb with h | h
    · exact hv b h
    · right; have := hX.size; omega

set_option maxRecDepth 100000 in
set_option maxHeartbeats 4000000 in
theorem walk_leaf {A : PA} {n : Nat} {S : Nat → Sl} {t : Int} {fs : List Nat} {fa : Int} {tb eb wb xb ob nb base i : Nat} {k u lo hi : Int} {v : Value} {L : List KV} {w : World} (h : Wcx A n S t fs fa tb eb wb xb ob nb base v L w) (hl : L.length ≤ 1000000) :
    Calls Try.prog 67 #[.pointer (some ⟨tb, 0, none⟩), .pointer none, ndV S (.leaf i k u), .int .i64 lo, .int .i64 hi, yldP eb wb xb ob nb] w (WalkPost eb wb xb ob nb base v L (win lo hi [(k, u)]) w) := by
  have HGO := Lib.hid (fun W (o : Only [] w W) => gotp_one (c := (k, u)) ((h.plain o).got) hl (h.plain o).base)
  have HH := Lib.hid h
  have hta := assertL_leaf k u
  rw [ndV_agg]
  show Calls _ _ #[_, _, .agg #[.int .i64 (hnd S (.leaf i k u)), .iface 129 (.agg #[.int .i64 k, .int .i64 u])], _, _, _] _ _
  obtain ⟨hx, hhx⟩ : ∃ q, hnd S (.leaf i k u) = q := ⟨_, rfl⟩
  rw [hhx]
  clear h hl hhx
  unfold yldP
  by_cases h1 : k < lo
  · have e1 : decide (k < lo) = true := by simp [h1]
    have hw : win lo hi [(k, u)] = [] := by simp [win]; omega
    rw [hw]
    have hres : WalkPost eb wb xb ob nb base v L [] w (.returned (.bool true)) w := ⟨rfl, v, by simpa using HH.out.got, Only.refl _ _, fun b hb => Or.inl hb⟩
    have HR := Lib.hid (fun W (o : Only [] w W) => show WalkPost eb wb xb ob nb base v L [] w (.returned (.bool true)) W from ⟨rfl, v, by simpa using (HH.out.plain o).got, o.mono (by simp), fun b hb => Or.inl hb⟩)
    clear hw hres HGO HH
    go_enter Try.func67, Try.ntmps67
    go_upto_region 4 with fail
    refine wp_name (fun w1 => Blk w1 (w.heap.size + 1) #[.int .i64 k, .int .i64 u] 129 ∧ Only [] w w1) ⟨?_, (Only.alloc [] _ _).trans (Only.alloc [] _ _)⟩ ?_
    · have := Blk.new (w.alloc (.cells #[.int .i64 hx, .iface 129 (.agg #[.int .i64 k, .int .i64 u])] 125)) #[.int .i64 k, .int .i64 u] 129
      simpa using this
    generalize w.heap.size = nb
    rintro w1 ⟨hB, hX⟩
    have b0 := hB.cell 0 rfl
    have b1 := hB.cell 1 rfl
    have HX := Lib.hid hX
    clear hB hX
    go_wp2_with fail
    go_ret
    exact HR.out _ HX.out
  · have e1 : decide (k < lo) = false := by simp; omega
    by_cases h2 : k > hi
    · have e2 : decide (k > hi) = true := by simpa using h2
      have hw : win lo hi [(k, u)] = [] := by simp [win]; omega
      rw [hw]
      have HR := Lib.hid (fun W (o : Only [] w W) => show WalkPost eb wb xb ob nb base v L [] w (.returned (.bool true)) W from ⟨rfl, v, by simpa using (HH.out.plain o).got, o.mono (by simp), fun b hb => Or.inl hb⟩)
      clear hw HGO HH
      go_enter Try.func67, Try.ntmps67
      go_upto_region 4 with fail
      refine wp_name (fun w1 => Blk w1 (w.heap.size + 1) #[.int .i64 k, .int .i64 u] 129 ∧ Only [] w w1) ⟨?_, (Only.alloc [] _ _).trans (Only.alloc [] _ _)⟩ ?_
      · have := Blk.new (w.alloc (.cells #[.int .i64 hx, .iface 129 (.agg #[.int .i64 k, .int .i64 u])] 125)) #[.int .i64 k, .int .i64 u] 129
        simpa using this
      generalize w.heap.size = nb
      rintro w1 ⟨hB, hX⟩
      have b0 := hB.cell 0 rfl
      have b1 := hB.cell 1 rfl
      have HX := Lib.hid hX
      clear hB hX
      go_wp2_with fail
      go_ret
      exact HR.out _ HX.out
    · have e2 : decide (k > hi) = false := by simp; omega
      have hw : win lo hi [(k, u)] = [(k, u)] := by simp [win]; omega
      rw [hw]
      clear hw
      go_enter Try.func67, Try.ntmps67
      go_upto_region 4 with fail
      refine wp_name (fun w1 => Blk w1 (w.heap.size + 1) #[.int .i64 k, .int .i64 u] 129 ∧ Only [] w w1) ⟨?_, (Only.alloc [] _ _).trans (Only.alloc [] _ _)⟩ ?_
      · have := Blk.new (w.alloc (.cells #[.int .i64 hx, .iface 129 (.agg #[.int .i64 k, .int .i64 u])] 125)) #[.int .i64 k, .int .i64 u] 129
        simpa using this
      generalize w.heap.size + 1 = lb
      rintro w1 ⟨hB, hX⟩
      have b0 := hB.cell 0 rfl
      have b1 := hB.cell 1 rfl
      have HX := Lib.hid hX
      have HC := Lib.hid (HGO.out w1 hX)
      clear hB hX
      go_wp2_with fail
      refine HC.out.mono ?_
      rintro e w2 ⟨rfl, v2, hG2, hX2, hv2⟩
      have HG2 := Lib.hid hG2
      have HX2 := Lib.hid hX2
      have HV2 := Lib.hid hv2
      clear hG2 hX2 hv2 b0 b1 HC
      go_wp2_with fail
      go_ret
      exact ⟨rfl, v2, HG2.out, (HX.out.mono (by simp)).trans HX2.out, fun b hb => (HV2.out b hb).imp id (fun h => Nat.le_trans HX.out.size h)⟩

set_option maxRecDepth 100000 in
set_option maxHeartbeats 4000000 in
theorem under_of {A : PA} {n : Nat} {S : Nat → Sl} {t : Int} {fs : List Nat} {fa : Int} {tb eb wb xb ob nb base i p : Nat} {f lo hi : Int} {l r : Tr} {v : Value} {L : List KV} {w : World} (right : Bool) (c : Tr) (hc : c = if right then r else l) (h : Wcx A n S t fs fa tb eb wb xb ob nb base v L w) (R : Rep n S (.node i p f l r)) (wf : (Tr.node i p f l r).wf)
    (hW : ∀ W, Only [] w W → Calls Try.prog 67 #[.pointer (some ⟨tb, 0, none⟩), .pointer none, ndV S c, .int .i64 lo, .int .i64 hi, yldP eb wb xb ob nb] W (WalkPost eb wb xb ob nb base v L (win lo hi c.pairs) W)) :
    Calls Try.prog 87 #[.pointer (some ⟨tb, 0, none⟩), .pointer none, innerV p f (hnd S l) (hnd S r) ((Tr.node i p f l r).cnt : Nat), .bool right, .int .i64 lo, .int .i64 hi, yldP eb wb xb ob nb] w (WalkPost eb wb xb ob nb base v L (win lo hi c.pairs) w) := by
  obtain ⟨ty, sv, hsv⟩ := shV_one S c
  have HRD : Hid (∀ W, Only [] w W → Calls Try.prog (if right then 56 else 55) #[.pointer (some ⟨tb, 0, none⟩), .pointer none, innerV p f (hnd S l) (hnd S r) ((Tr.node i p f l r).cnt : Nat)] W fun e w' => e = .returned (.tuple #[ndV S c, .int .i64 0]) ∧ Only [] W w') := Lib.hid (fun W o => by
    cases right
    · simp at hc; subst hc
      exact trie_left (h.tr.plain o) R wf _ _
    · simp at hc; subst hc
      exact trie_right (h.tr.plain o) R wf _ _)
  simp only [ndV_agg, hsv] at HRD hW
  have HW := Lib.hid hW
  unfold yldP at HW
  unfold innerV at HRD ⊢
  unfold yldP
  obtain ⟨vl, hvl⟩ : ∃ q, hnd S l = q := ⟨_, rfl⟩
  obtain ⟨vr, hvr⟩ : ∃ q, hnd S r = q := ⟨_, rfl⟩
  obtain ⟨vc, hvc⟩ : ∃ q, (((Tr.node i p f l r).cnt : Nat) : Int) = q := ⟨_, rfl⟩
  obtain ⟨pp, hpp⟩ : ∃ q, ((p : Nat) : Int) = q := ⟨_, rfl⟩
  obtain ⟨hx, hhx⟩ : ∃ q, hnd S c = q := ⟨_, rfl⟩
  obtain ⟨M, hM⟩ : ∃ q, win lo hi c.pairs = q := ⟨_, rfl⟩
  rw [hvl, hvr, hvc, hpp, hhx] at HRD
  rw [hhx, hM] at HW
  rw [hvl, hvr, hvc, hpp, hM]
  have hmf : ∀ (fn : Fn) (first cap : Array Value) (w : World), (Instr.makeFunc fn first cap).run Try.prog w = .ok (.func fn first cap) w := fun _ _ _ _ => rfl
  clear h R wf hW hsv hvl hvr hvc hpp hhx hM hc
  cases right <;>
  · simp at HRD
    go_enter Try.func87, Try.ntmps87
    go_upto_region 1 with fail
    refine wp_name (fun w1 => Blk w1 w.heap.size #[.int .i64 pp, .int .i64 f, .int .i64 vl, .int .i64 vr, .int .i64 vc] 135 ∧ Only [] w w1) ⟨Blk.new _ _ _, Only.alloc [] _ _⟩ ?_
    generalize w.heap.size = ib
    rintro w1 ⟨hB, hX⟩
    have b0 := hB.cell 0 rfl
    have b1 := hB.cell 1 rfl
    have b2 := hB.cell 2 rfl
    have b3 := hB.cell 3 rfl
    have b4 := hB.cell 4 rfl
    have HX := Lib.hid hX
    have HC := Lib.hid (HRD.out w1 hX)
    clear hB hX
    go_wp2_with fail
    refine HC.out.mono ?_
    rintro e w2 ⟨rfl, hX2⟩
    have HX2 := Lib.hid (HX.out.trans hX2)
    clear hX2 b0 b1 b2 b3 b4 HC
    go_upto_region 5 with fail
    refine wp_name (fun w3 => Blk w3 w2.heap.size #[.int .i64 hx, .iface ty sv] 125 ∧ Only [] w w3) ⟨Blk.new _ _ _, HX2.out.trans (Only.alloc [] _ _)⟩ ?_
    generalize w2.heap.size = n2
    rintro w3 ⟨hN, hX3⟩
    have m0 := hN.cell 0 rfl
    have m1 := hN.cell 1 rfl
    have HX3 := Lib.hid hX3
    have HC := Lib.hid (HW.out w3 hX3)
    clear hN hX3 hmf
    go_wp2_with fail
    refine HC.out.mono ?_
    rintro e w4 ⟨rfl, v4, hG4, hX4, hv4⟩
    have HG4 := Lib.hid hG4
    have HX4 := Lib.hid hX4
    have HV4 := Lib.hid hv4
    clear hG4 hX4 hv4 m0 m1 HC
    go_wp2_with fail
    go_ret
    exact ⟨rfl, v4, HG4.out, (HX3.out.mono (by simp)).trans HX4.out, fun b hb => (HV4.out b hb).imp id (fun h => Nat.le_trans HX3.out.size h)⟩

end Go.Proofs.Ytacegkjobfeiiaa

namespace Go.Proofs.Ytacegkjobfeiiaa
open Go.RowKit

theorem win_none {lo hi a b : Int} {y : Tr} (wf : y.wf) (h1 : a ≤ y.lo) (h2 : y.hi ≤ b) (hn : ¬ max lo a ≤ min hi b) : win lo hi y.pairs = [] := by
  unfold win
  refine filter_none fun x hx => ?_
  have := Tr.wf_keys wf x hx
  simp
  omega

set_option maxRecDepth 100000 in
set_option maxHeartbeats 4000000 in
theorem walk_node {A : PA} {n : Nat} {S : Nat → Sl} {t : Int} {fs : List Nat} {fa : Int} {tb eb wb xb ob nb base i p : Nat} {f lo hi : Int} {l r : Tr} {v : Value} {L : List KV} {w : World} (h : Wcx A n S t fs fa tb eb wb xb ob nb base v L w) (R : Rep n S (.node i p f l r)) (wf : (Tr.node i p f l r).wf) (hl : L.length + (Tr.node i p f l r).cnt ≤ 1000000)
    (ihl : ∀ v L W, Wcx A n S t fs fa tb eb wb xb ob nb base v L W → L.length + l.cnt ≤ 1000000 → Calls Try.prog 67 #[.pointer (some ⟨tb, 0, none⟩), .pointer none, ndV S l, .int .i64 lo, .int .i64 hi, yldP eb wb xb ob nb] W (WalkPost eb wb xb ob nb base v L (win lo hi l.pairs) W))
    (ihr : ∀ v L W, Wcx A n S t fs fa tb eb wb xb ob nb base v L W → L.length + r.cnt ≤ 1000000 → Calls Try.prog 67 #[.pointer (some ⟨tb, 0, none⟩), .pointer none, ndV S r, .int .i64 lo, .int .i64 hi, yldP eb wb xb ob nb] W (WalkPost eb wb xb ob nb base v L (win lo hi r.pairs) W)) :
    Calls Try.prog 67 #[.pointer (some ⟨tb, 0, none⟩), .pointer none, ndV S (.node i p f l r), .int .i64 lo, .int .i64 hi, yldP eb wb xb ob nb] w (WalkPost eb wb xb ob nb base v L (win lo hi (Tr.node i p f l r).pairs) w) := by
  have hcn : (Tr.node i p f l r).cnt = l.cnt + r.cnt := rfl
  have HUL := Lib.hid (fun v L W (hx : Wcx A n S t fs fa tb eb wb xb ob nb base v L W) (hc : L.length + l.cnt ≤ 1000000) => under_of (lo := lo) (hi := hi) false l (by simp) hx R wf (fun W2 o => ihl v L W2 (hx.plain o) hc))
  have HUR := Lib.hid (fun v L W (hx : Wcx A n S t fs fa tb eb wb xb ob nb base v L W) (hc : L.length + r.cnt ≤ 1000000) => under_of (lo := lo) (hi := hi) true r (by simp) hx R wf (fun W2 o => ihr v L W2 (hx.plain o) hc))
  have HHF := Lib.hid (fun w => inner_half p f (hnd S l) (hnd S r) ((Tr.node i p f l r).cnt : Nat) wf.1 ⟨wf.2.2.1, by have := wf.2.2.2.1; have := pw_pos (p + 1); omega⟩ w)
  have HSP := Lib.hid (fun w => inner_span p f (hnd S l) (hnd S r) ((Tr.node i p f l r).cnt : Nat) wf.1 ⟨wf.2.2.1, by have := wf.2.2.2.1; have := pw_pos (p + 1); omega⟩ w)
  have hta : ∀ w, (Instr.typeAssert (.iface 135 (.agg #[.int .i64 p, .int .i64 f, .int .i64 (hnd S l), .int .i64 (hnd S r), .int .i64 ((Tr.node i p f l r).cnt : Nat)])) 123 129 true).run Try.prog w = _ := fun w => assertL_inner p f (hnd S l) (hnd S r) ((Tr.node i p f l r).cnt : Nat) w
  have htb := assert_inner p f (hnd S l) (hnd S r) ((Tr.node i p f l r).cnt : Nat)
  have HWF := Lib.hid wf
  have HH := Lib.hid h
  have HCN := Lib.hid (show L.length + (l.cnt + r.cnt) ≤ 1000000 by rw [← hcn]; exact hl)
  have hpp := pw_pos p
  have hps := pw_succ p
  have hp32 := pw_le (p := p + 1) (by have := wf.1; omega)
  have hwf := wf
  obtain ⟨_, _, hf0, hfM, _, _, a1, a2, a3, a4⟩ := hwf
  rw [ndV_agg]
  show Calls _ _ #[_, _, .agg #[.int .i64 (hnd S (.node i p f l r)), .iface 135 (.agg #[.int .i64 p, .int .i64 f, .int .i64 (hnd S l), .int .i64 (hnd S r), .int .i64 ((Tr.node i p f l r).cnt : Nat)])], _, _, _] _ _
  have hwin : win lo hi (Tr.node i p f l r).pairs = win lo hi l.pairs ++ win lo hi r.pairs := win_append _ _ _ _
  rw [hwin]
  obtain ⟨hfv, hhf⟩ : ∃ q, f + pw p = q := ⟨_, rfl⟩
  obtain ⟨en, hen⟩ : ∃ q, f + pw (p + 1) - 1 = q := ⟨_, rfl⟩
  rw [hhf] at HHF
  rw [hen] at HSP
  have hsub : IntKind.i64.wrap (hfv - 1) = hfv - 1 := IntWalk.i64_in _ ⟨by omega, by omega⟩
  have HNL : Hid (¬ max lo f ≤ min hi (hfv - 1) → win lo hi l.pairs = []) := Lib.hid (fun hn => win_none HWF.out.2.2.2.2.1 a1 (by omega) hn)
  have HNR : Hid (¬ max lo hfv ≤ min hi en → win lo hi r.pairs = []) := Lib.hid (fun hn => win_none HWF.out.2.2.2.2.2.1 (by omega) (by omega) hn)
  unfold yldP at HUL HUR ⊢
  unfold innerV at HUL HUR HHF HSP
  obtain ⟨ML, hML⟩ : ∃ q, win lo hi l.pairs = q := ⟨_, rfl⟩
  obtain ⟨MR, hMR⟩ : ∃ q, win lo hi r.pairs = q := ⟨_, rfl⟩
  have HML : Hid (ML.length ≤ l.cnt) := Lib.hid (by rw [← hML, ← Tr.cnt_pairs]; exact win_length _ _ _)
  rw [hML] at HUL HNL
  rw [hMR] at HUR HNR
  rw [hML, hMR]
  obtain ⟨hx, hhx⟩ : ∃ q, hnd S (.node i p f l r) = q := ⟨_, rfl⟩
  obtain ⟨vl, hvl⟩ : ∃ q, hnd S l = q := ⟨_, rfl⟩
  obtain ⟨vr, hvr⟩ : ∃ q, hnd S r = q := ⟨_, rfl⟩
  obtain ⟨vc, hvc⟩ : ∃ q, (((Tr.node i p f l r).cnt : Nat) : Int) = q := ⟨_, rfl⟩
  obtain ⟨pp, hppp⟩ : ∃ q, ((p : Nat) : Int) = q := ⟨_, rfl⟩
  rw [hvl, hvr, hvc, hppp] at HUL HUR HHF HSP hta htb
  rw [hhx, hvl, hvr, hvc, hppp]
  clear h R wf hl ihl ihr hcn hpp hps hp32 hf0 hfM a1 a2 a3 a4 hwin hhf hen hML hMR hhx hvl hvr hvc hppp HWF
  go_enter Try.func67, Try.ntmps67
  go_upto_region 7 with fail
  refine wp_name (fun w1 => Blk w1 (w.heap.size + 1) #[.int .i64 pp, .int .i64 f, .int .i64 vl, .int .i64 vr, .int .i64 vc] 135 ∧ Only [] w w1) ⟨?_, (Only.alloc [] _ _).trans (Only.alloc [] _ _)⟩ ?_
  · have := Blk.new (w.alloc (.cells #[.int .i64 hx, .iface 135 (.agg #[.int .i64 pp, .int .i64 f, .int .i64 vl, .int .i64 vr, .int .i64 vc])] 125)) #[.int .i64 pp, .int .i64 f, .int .i64 vl, .int .i64 vr, .int .i64 vc] 135
    simpa using this
  obtain ⟨ib, hib⟩ : ∃ b, w.heap.size + 1 = b := ⟨_, rfl⟩
  have HIB : Hid (∀ k, k ∈ gotP eb wb xb ob nb v → k < ib) := Lib.hid (fun k hk => by have := HH.out.got.lt k hk; omega)
  have HIW : Hid (w.heap.size ≤ ib) := Lib.hid (by omega)
  rw [hib]
  clear hib hta htb
  rintro w1 ⟨hB, hX⟩
  have b0 := hB.cell 0 rfl
  have b1 := hB.cell 1 rfl
  have b2 := hB.cell 2 rfl
  have b3 := hB.cell 3 rfl
  have b4 := hB.cell 4 rfl
  have HB := Lib.hid hB
  have HX := Lib.hid hX
  clear hB hX
  go_wp2_with fail
  refine (HSP.out _).mono ?_
  rintro e w2 ⟨rfl, hX2⟩
  have hd := hX2.trans (Only.drew [] w2)
  have hB2 := HB.out.only hd (by simp)
  have HKP : Hid (∀ w', Only (gotP eb wb xb ob nb v) w2.drew w' → Blk w' ib #[.int .i64 pp, .int .i64 f, .int .i64 vl, .int .i64 vr, .int .i64 vc] 135) := Lib.hid (fun w' o => hB2.only o (fun hm => by have := HIB.out _ hm; omega))
  have hKP : Hid (∀ w', Only (gotP eb wb xb ob nb v) w2.drew w' → w'.cell? ⟨ib, 0, none⟩ = some (.int .i64 pp) ∧ w'.cell? ⟨ib, 1, none⟩ = some (.int .i64 f) ∧ w'.cell? ⟨ib, 2, none⟩ = some (.int .i64 vl) ∧ w'.cell? ⟨ib, 3, none⟩ = some (.int .i64 vr) ∧ w'.cell? ⟨ib, 4, none⟩ = some (.int .i64 vc)) := Lib.hid (fun w' o => ⟨(HKP.out w' o).cell 0 rfl, (HKP.out w' o).cell 1 rfl, (HKP.out w' o).cell 2 rfl, (HKP.out w' o).cell 3 rfl, (HKP.out w' o).cell 4 rfl⟩)
  have HXD := Lib.hid (HX.out.trans hd)
  clear b0 b1 b2 b3 b4 hX2 hd HB HX
  have b0 := hB2.cell 0 rfl
  have b1 := hB2.cell 1 rfl
  have b2 := hB2.cell 2 rfl
  have b3 := hB2.cell 3 rfl
  have b4 := hB2.cell 4 rfl
  clear hB2
  go_upto_region 8 with fail
  go_cut [68] (fun s68 wc => s68 = .bool false ∧ ∃ v1, Wcx A n S t fs fa tb eb wb xb ob nb base v1 (L ++ ML) wc ∧ Only (gotP eb wb xb ob nb v) w wc ∧ (∀ b, v1.ownBlock = some b → v.ownBlock = some b ∨ w.heap.size ≤ b) ∧ Blk wc ib #[.int .i64 pp, .int .i64 f, .int .i64 vl, .int .i64 vr, .int .i64 vc] 135)
  case first =>
    by_cases hwant : max lo f ≤ min hi (hfv - 1)
    · have hdw : decide (max lo f ≤ min hi (hfv - 1)) = true := by simpa using hwant
      go_region_held3 (fun W => W.cell? ⟨ib, 0, none⟩ = some (.int .i64 pp) ∧ W.cell? ⟨ib, 1, none⟩ = some (.int .i64 f) ∧ W.cell? ⟨ib, 2, none⟩ = some (.int .i64 vl) ∧ W.cell? ⟨ib, 3, none⟩ = some (.int .i64 vr) ∧ W.cell? ⟨ib, 4, none⟩ = some (.int .i64 vc))
        (first | exact ⟨b0, b1, b2, b3, b4⟩ | exact hKP.out _ (hX8.mono (by simp)) | exact hKP.out _ hX9)
        (first | (go_at_call 63; refine (HHF.out _).mono ?_; rintro e w8 ⟨rfl, hX8⟩) | (go_at_call 87; refine (HUL.out v L _ (HH.out.plain (HXD.out.trans hX8)) (by have := HCN.out; omega)).mono ?_; rintro e w9 hm9; obtain ⟨rfl, v9, hW9, hX9a, hv9⟩ := (HH.out.plain (HXD.out.trans hX8)).more hm9; have hX9 := (hX8.mono (by simp)).trans hX9a; have HW9 := Lib.hid hW9; have HV9 := Lib.hid hv9; clear hm9 hW9 hv9 hX9a))
      all_goals go_wp2_with fail
      all_goals go_meet
      all_goals exact ⟨rfl, v9, HW9.out, (HXD.out.mono (by simp)).trans hX9, fun b hb => (HV9.out b hb).imp id (fun h => Nat.le_trans (HXD.out.trans hX8).size h), HKP.out _ hX9⟩
    · have hdw : decide (max lo f ≤ min hi (hfv - 1)) = false := by simpa using hwant
      have hnl := HNL.out (by omega)
      subst hnl
      refine wp_region_held_drew (S := (fun W => W.cell? ⟨ib, 0, none⟩ = some (.int .i64 pp) ∧ W.cell? ⟨ib, 1, none⟩ = some (.int .i64 f) ∧ W.cell? ⟨ib, 2, none⟩ = some (.int .i64 vl) ∧ W.cell? ⟨ib, 3, none⟩ = some (.int .i64 vr) ∧ W.cell? ⟨ib, 4, none⟩ = some (.int .i64 vc))) (by kernel_rfl) ⟨b0, b1, b2, b3, b4⟩ (fun hHeld => ?_)
      refine wpAnyH_take (i := 0) (oi := { dst := some 49, op := Op.move (Operand.tmp 3), type := 3, pos := "walk.go:126", after := #[], guard := none }) (v := ?_) rfl (by kernel_rfl) (by kernel_rfl) (by kernel_rfl) (fun _ _ _ h => h) (Or.inl ⟨by rfl, ?_⟩) (by assumption) ?_
      rotate_left 1
      · intro w hSw
        obtain ⟨s0, s1, s2, s3, s4⟩ := hSw
        go_simp
        try with_reducible rfl
      try simp only [Act.put, List.setIfInBounds_toArray, List.set_cons_zero, List.set_cons_succ]
      refine wpAnyH_take (i := 1) (oi := { dst := some 50, op := Op.fieldAddr 135 (Operand.tmp 14) 1, type := 0, pos := "walk.go:126", after := #[], guard := none }) (v := ?_) rfl (by kernel_rfl) (by kernel_rfl) (by kernel_rfl) (fun _ _ _ h => h) (Or.inl ⟨by rfl, ?_⟩) (by assumption) ?_
      rotate_left 1
      · intro w hSw
        obtain ⟨s0, s1, s2, s3, s4⟩ := hSw
        go_simp
        try with_reducible rfl
      try simp only [Act.put, List.setIfInBounds_toArray, List.set_cons_zero, List.set_cons_succ]
      refine wpAnyH_take (i := 2) (oi := { dst := some 51, op := Op.load 3 (Operand.tmp 50), type := 3, pos := "walk.go:126", after := #[{ on := 1, ground := Ground.data }], guard := none }) (v := ?_) rfl (by kernel_rfl) (by kernel_rfl) (by kernel_rfl) (fun _ _ _ h => h) (Or.inl ⟨by rfl, ?_⟩) (by assumption) ?_
      rotate_left 1
      · intro w hSw
        obtain ⟨s0, s1, s2, s3, s4⟩ := hSw
        go_simp
        try with_reducible rfl
      try simp only [Act.put, List.setIfInBounds_toArray, List.set_cons_zero, List.set_cons_succ]
      refine wpAnyH_take (i := 3) (oi := { dst := some 52, op := Op.call { callee := Callee.builtin Builtin.max, args := #[Operand.tmp 49, Operand.tmp 51], argTypes := #[3, 3] }, type := 3, pos := "walk.go:126", after := #[{ on := 0, ground := Ground.data }, { on := 2, ground := Ground.data }], guard := none }) (v := ?_) rfl (by kernel_rfl) (by kernel_rfl) (by kernel_rfl) (fun _ _ _ h => h) (Or.inl ⟨by rfl, ?_⟩) (by assumption) ?_
      rotate_left 1
      · intro w hSw
        obtain ⟨s0, s1, s2, s3, s4⟩ := hSw
        go_simp
        try with_reducible rfl
      try simp only [Act.put, List.setIfInBounds_toArray, List.set_cons_zero, List.set_cons_succ]
      refine wpAnyH_take (i := 4) (oi := { dst := some 53, op := Op.move (Operand.tmp 4), type := 3, pos := "walk.go:126", after := #[], guard := none }) (v := ?_) rfl (by kernel_rfl) (by kernel_rfl) (by kernel_rfl) (fun _ _ _ h => h) (Or.inl ⟨by rfl, ?_⟩) (by assumption) ?_
      rotate_left 1
      · intro w hSw
        obtain ⟨s0, s1, s2, s3, s4⟩ := hSw
        go_simp
        try with_reducible rfl
      try simp only [Act.put, List.setIfInBounds_toArray, List.set_cons_zero, List.set_cons_succ]
      refine wpAnyH_take (i := 5) (oi := { dst := some 54, op := Op.load 135 (Operand.tmp 14), type := 135, pos := "walk.go:126", after := #[], guard := none }) (v := ?_) rfl (by kernel_rfl) (by kernel_rfl) (by kernel_rfl) (fun _ _ _ h => h) (Or.inl ⟨by rfl, ?_⟩) (by assumption) ?_
      rotate_left 1
      · intro w hSw
        obtain ⟨s0, s1, s2, s3, s4⟩ := hSw
        go_simp
        try with_reducible rfl
      try simp only [Act.put, List.setIfInBounds_toArray, List.set_cons_zero, List.set_cons_succ]
      refine wpAnyH_ready (rs := [6]) (by kernel_rfl) (by simp) ?_
      refine AllReadyH.cons (o := { dst := some 55, op := Op.call { callee := Callee.value (Operand.func 63), args := #[Operand.tmp 54], argTypes := #[135] }, type := 3, pos := "walk.go:126", after := #[{ on := 5, ground := Ground.data }], guard := none }) rfl (fun K hK => ?_) AllReadyH.nil
      go_simp
      go_at_call 63
      refine (HHF.out _).mono ?_
      rintro e w8 ⟨rfl, hX8⟩
      go_wp2_with fail
      refine hK.out _ _ (hKP.out _ (hX8.mono (by simp))) (fun hHeld => ?_)
      clear hK K
      try simp only [Act.put, List.setIfInBounds_toArray, List.set_cons_zero, List.set_cons_succ]
      refine wpAnyH_take (i := 7) (oi := { dst := some 56, op := Op.binOp BinOp.sub 3 (Operand.tmp 55) (Operand.const (Value.int IntKind.i64 1)) 3, type := 3, pos := "walk.go:126", after := #[{ on := 6, ground := Ground.data }], guard := none }) (v := ?_) rfl (by kernel_rfl) (by kernel_rfl) (by kernel_rfl) (fun _ _ _ h => h) (Or.inl ⟨by rfl, ?_⟩) (by assumption) ?_
      rotate_left 1
      · intro w hSw
        obtain ⟨s0, s1, s2, s3, s4⟩ := hSw
        go_simp
        try with_reducible rfl
      try simp only [Act.put, List.setIfInBounds_toArray, List.set_cons_zero, List.set_cons_succ]
      refine wpAnyH_take (i := 8) (oi := { dst := some 57, op := Op.call { callee := Callee.builtin Builtin.min, args := #[Operand.tmp 53, Operand.tmp 56], argTypes := #[3, 3] }, type := 3, pos := "walk.go:126", after := #[{ on := 4, ground := Ground.data }, { on := 7, ground := Ground.data }], guard := none }) (v := ?_) rfl (by kernel_rfl) (by kernel_rfl) (by kernel_rfl) (fun _ _ _ h => h) (Or.inl ⟨by rfl, ?_⟩) (by assumption) ?_
      rotate_left 1
      · intro w hSw
        obtain ⟨s0, s1, s2, s3, s4⟩ := hSw
        go_simp
        try with_reducible rfl
      try simp only [Act.put, List.setIfInBounds_toArray, List.set_cons_zero, List.set_cons_succ]
      refine wpAnyH_take (i := 9) (oi := { dst := some 58, op := Op.binOp BinOp.leq 3 (Operand.tmp 52) (Operand.tmp 57) 3, type := 4, pos := "walk.go:126", after := #[{ on := 3, ground := Ground.data }, { on := 8, ground := Ground.data }], guard := none }) (v := ?_) rfl (by kernel_rfl) (by kernel_rfl) (by kernel_rfl) (fun _ _ _ h => h) (Or.inl ⟨by rfl, ?_⟩) (by assumption) ?_
      rotate_left 1
      · intro w hSw
        obtain ⟨s0, s1, s2, s3, s4⟩ := hSw
        go_simp
        try with_reducible rfl
      try simp only [Act.put, List.setIfInBounds_toArray, List.set_cons_zero, List.set_cons_succ]
      refine wpAnyH_take (i := 10) (oi := { dst := some 59, op := Op.move (Operand.tmp 58), type := 4, pos := "walk.go:126", after := #[{ on := 9, ground := Ground.data }, { on := 6, ground := Ground.chain }], guard := none }) (v := ?_) rfl (by kernel_rfl) (by kernel_rfl) (by kernel_rfl) (fun _ _ _ h => h) (Or.inl ⟨by rfl, ?_⟩) (by assumption) ?_
      rotate_left 1
      · intro w hSw
        obtain ⟨s0, s1, s2, s3, s4⟩ := hSw
        go_simp
        try with_reducible rfl
      try simp only [Act.put, List.setIfInBounds_toArray, List.set_cons_zero, List.set_cons_succ]
      refine wpAnyH_take (i := 11) (oi := { dst := some 60, op := Op.move (Operand.tmp 0), type := 29, pos := "walk.go:126", after := #[{ on := 10, ground := Ground.guard }], guard := some (10, true) }) (v := _) rfl (by kernel_rfl) (by kernel_rfl) (by kernel_rfl) (fun _ _ _ h => h) (Or.inr ⟨by rfl, rfl⟩) (by assumption) ?_
      try simp only [Act.put, List.setIfInBounds_toArray, List.set_cons_zero, List.set_cons_succ]
      refine wpAnyH_take (i := 12) (oi := { dst := some 61, op := Op.move (Operand.tmp 1), type := 94, pos := "walk.go:126", after := #[{ on := 10, ground := Ground.guard }], guard := some (10, true) }) (v := _) rfl (by kernel_rfl) (by kernel_rfl) (by kernel_rfl) (fun _ _ _ h => h) (Or.inr ⟨by rfl, rfl⟩) (by assumption) ?_
      try simp only [Act.put, List.setIfInBounds_toArray, List.set_cons_zero, List.set_cons_succ]
      refine wpAnyH_take (i := 13) (oi := { dst := some 62, op := Op.load 135 (Operand.tmp 14), type := 135, pos := "walk.go:126", after := #[{ on := 10, ground := Ground.guard }], guard := some (10, true) }) (v := _) rfl (by kernel_rfl) (by kernel_rfl) (by kernel_rfl) (fun _ _ _ h => h) (Or.inr ⟨by rfl, rfl⟩) (by assumption) ?_
      try simp only [Act.put, List.setIfInBounds_toArray, List.set_cons_zero, List.set_cons_succ]
      refine wpAnyH_take (i := 14) (oi := { dst := some 63, op := Op.move (Operand.tmp 3), type := 3, pos := "walk.go:126", after := #[{ on := 10, ground := Ground.guard }], guard := some (10, true) }) (v := _) rfl (by kernel_rfl) (by kernel_rfl) (by kernel_rfl) (fun _ _ _ h => h) (Or.inr ⟨by rfl, rfl⟩) (by assumption) ?_
      try simp only [Act.put, List.setIfInBounds_toArray, List.set_cons_zero, List.set_cons_succ]
      refine wpAnyH_take (i := 15) (oi := { dst := some 64, op := Op.move (Operand.tmp 4), type := 3, pos := "walk.go:126", after := #[{ on := 10, ground := Ground.guard }], guard := some (10, true) }) (v := _) rfl (by kernel_rfl) (by kernel_rfl) (by kernel_rfl) (fun _ _ _ h => h) (Or.inr ⟨by rfl, rfl⟩) (by assumption) ?_
      try simp only [Act.put, List.setIfInBounds_toArray, List.set_cons_zero, List.set_cons_succ]
      refine wpAnyH_take (i := 16) (oi := { dst := some 65, op := Op.move (Operand.tmp 5), type := 158, pos := "walk.go:126", after := #[{ on := 10, ground := Ground.guard }], guard := some (10, true) }) (v := _) rfl (by kernel_rfl) (by kernel_rfl) (by kernel_rfl) (fun _ _ _ h => h) (Or.inr ⟨by rfl, rfl⟩) (by assumption) ?_
      try simp only [Act.put, List.setIfInBounds_toArray, List.set_cons_zero, List.set_cons_succ]
      refine wpAnyH_take (i := 17) (oi := { dst := some 66, op := Op.call { callee := Callee.value (Operand.func 87), args := #[Operand.tmp 60, Operand.tmp 61, Operand.tmp 62, Operand.const (Value.bool false), Operand.tmp 63, Operand.tmp 64, Operand.tmp 65], argTypes := #[29, 94, 135, 4, 3, 3, 158] }, type := 4, pos := "walk.go:126", after := #[{ on := 11, ground := Ground.data }, { on := 12, ground := Ground.data }, { on := 13, ground := Ground.data }, { on := 14, ground := Ground.data }, { on := 15, ground := Ground.data }, { on := 16, ground := Ground.data }, { on := 10, ground := Ground.chain }, { on := 10, ground := Ground.guard }], guard := some (10, true) }) (v := _) rfl (by kernel_rfl) (by kernel_rfl) (by kernel_rfl) (fun _ _ _ h => h) (Or.inr ⟨by rfl, rfl⟩) (by assumption) ?_
      try simp only [Act.put, List.setIfInBounds_toArray, List.set_cons_zero, List.set_cons_succ]
      refine wpAnyH_take (i := 18) (oi := { dst := some 67, op := Op.unOp UnOp.not 4 (Operand.tmp 66), type := 4, pos := "walk.go:126", after := #[{ on := 17, ground := Ground.data }, { on := 10, ground := Ground.guard }], guard := some (10, true) }) (v := _) rfl (by kernel_rfl) (by kernel_rfl) (by kernel_rfl) (fun _ _ _ h => h) (Or.inr ⟨by rfl, rfl⟩) (by assumption) ?_
      try simp only [Act.put, List.setIfInBounds_toArray, List.set_cons_zero, List.set_cons_succ]
      refine wpAnyH_take (i := 19) (oi := { dst := some 68, op := Op.pick (Operand.tmp 59) (Operand.tmp 67) (Operand.const (Value.bool false)), type := 4, pos := "walk.go:126", after := #[{ on := 10, ground := Ground.data }, { on := 18, ground := Ground.data }], guard := none }) (v := ?_) rfl (by kernel_rfl) (by kernel_rfl) (by kernel_rfl) (fun _ _ _ h => h) (Or.inl ⟨by rfl, ?_⟩) (by assumption) ?_
      rotate_left 1
      · intro w hSw
        obtain ⟨s0, s1, s2, s3, s4⟩ := hSw
        go_simp
        try with_reducible rfl
      try simp only [Act.put, List.setIfInBounds_toArray, List.set_cons_zero, List.set_cons_succ]
      refine wpAnyH_done (by kernel_rfl) ?_ _
      clear hHeld
      go_wp2_with fail
      go_meet
      case rel => exact ⟨rfl, v, by rw [List.append_nil]; exact HH.out.plain (HXD.out.trans hX8), (HXD.out.trans hX8).mono (by simp), fun b hb => Or.inl hb, HKP.out _ (hX8.mono (by simp))⟩
  case rest =>
    obtain ⟨rfl, v1, hW1, hXc, hv1, hBc⟩ := hcut
    have b0 := hBc.cell 0 rfl
    have b1 := hBc.cell 1 rfl
    have b2 := hBc.cell 2 rfl
    have b3 := hBc.cell 3 rfl
    have b4 := hBc.cell 4 rfl
    have HB := Lib.hid hBc
    have HW1 := Lib.hid hW1
    have HXC := Lib.hid hXc
    have HV1 := Lib.hid hv1
    clear hW1 hXc hv1 hBc
    go_wp2_with fail
    refine (HHF.out _).mono ?_
    rintro e w3 ⟨rfl, hX3⟩
    have hB3 := HB.out.only hX3 (by simp)
    clear b0 b1 b2 b3 b4
    have b0 := hB3.cell 0 rfl
    have b1 := hB3.cell 1 rfl
    have b2 := hB3.cell 2 rfl
    have b3 := hB3.cell 3 rfl
    have b4 := hB3.cell 4 rfl
    clear hB3
    have HX3 := Lib.hid hX3
    clear hX3
    by_cases hwant : max lo hfv ≤ min hi en
    · have hdw : decide (max lo hfv ≤ min hi en) = true := by simpa using hwant
      have HC := Lib.hid (HUR.out v1 (L ++ ML) _ (HW1.out.plain HX3.out) (by have := HCN.out; have := HML.out; rw [List.length_append]; omega))
      go_wp2_with fail
      refine HC.out.mono ?_
      rintro e w4 hm4
      have HF := Lib.hid (WalkPost.trans (HXC.out.trans (HX3.out.mono (by simp))) HV1.out hm4)
      have he := hm4.1
      subst he
      clear hm4 b0 b1 b2 b3 b4
      go_wp2_with fail
      go_ret
      exact HF.out
    · have hdw : decide (max lo hfv ≤ min hi en) = false := by simpa using hwant
      have hnr := HNR.out (by omega)
      subst hnr
      have HF : Hid (WalkPost eb wb xb ob nb base v L (ML ++ []) w (.returned (.bool true)) w3) := Lib.hid ⟨rfl, v1, by rw [List.append_nil]; exact (HW1.out.plain HX3.out).got, HXC.out.trans (HX3.out.mono (by simp)), HV1.out⟩
      go_wp2_with fail
      go_ret
      exact HF.out

/-- All of a tree's pairs in a window. -/
theorem walk_all {A : PA} {n : Nat} {S : Nat → Sl} {t : Int} {fs : List Nat} {fa : Int} {tb eb wb xb ob nb base : Nat} {lo hi : Int} (x : Tr) : Rep n S x → x.wf → ∀ (v : Value) (L : List KV) (W : World), Wcx A n S t fs fa tb eb wb xb ob nb base v L W → L.length + x.cnt ≤ 1000000 → Calls Try.prog 67 #[.pointer (some ⟨tb, 0, none⟩), .pointer none, ndV S x, .int .i64 lo, .int .i64 hi, yldP eb wb xb ob nb] W (WalkPost eb wb xb ob nb base v L (win lo hi x.pairs) W) := by
  induction x with
  | leaf i k u => intro R wf v L W h hl; exact walk_leaf h (by simp only [Tr.cnt] at hl; omega)
  | node i p f l r ihl ihr => intro R wf v L W h hl; exact walk_node h R wf hl (ihl R.2.2.2.2.2.1 wf.2.2.2.2.1) (ihr R.2.2.2.2.2.2 wf.2.2.2.2.2.1)

end Go.Proofs.Ytacegkjobfeiiaa

namespace Go.Proofs.Ytacegkjobfeiiaa
open Go.RowKit

/-- Where Walk's variables stand. -/
def WalkVars (tb : Nat) (a lo hi : Int) (w : World) (p0 p1 p2 p3 p4 : Nat) : Prop :=
  w.cell? ⟨p0, 0, none⟩ = some (.int .i64 lo) ∧ w.cell? ⟨p1, 0, none⟩ = some (.int .i64 hi) ∧ w.cell? ⟨p2, 0, none⟩ = some (.pointer none) ∧ w.cell? ⟨p3, 0, none⟩ = some (.int .i64 a) ∧ w.cell? ⟨p4, 0, none⟩ = some (.pointer (some ⟨tb, 0, none⟩))

theorem WalkVars.plain {tb : Nat} {a lo hi : Int} {w w' : World} {p0 p1 p2 p3 p4 : Nat} (h : WalkVars tb a lo hi w p0 p1 p2 p3 p4) (o : Only [] w w') : WalkVars tb a lo hi w' p0 p1 p2 p3 p4 :=
  ⟨keep_cell o h.1, keep_cell o h.2.1, keep_cell o h.2.2.1, keep_cell o h.2.2.2.1, keep_cell o h.2.2.2.2⟩

/-- Walk's iterator as a value. -/
def walkV (p0 p1 p2 p3 p4 : Nat) : Value := .func (.func 66) #[] #[.pointer (some ⟨p0, 0, none⟩), .pointer (some ⟨p1, 0, none⟩), .pointer (some ⟨p2, 0, none⟩), .pointer (some ⟨p3, 0, none⟩), .pointer (some ⟨p4, 0, none⟩)]

set_option maxRecDepth 100000 in
set_option maxHeartbeats 4000000 in
theorem trie_walk {tb : Nat} {a lo hi : Int} {w : World} :
    Calls Try.prog 37 #[.pointer (some ⟨tb, 0, none⟩), .pointer none, .int .i64 a, .int .i64 lo, .int .i64 hi] w fun e w' => ∃ p0 p1 p2 p3 p4, e = .returned (walkV p0 p1 p2 p3 p4) ∧ WalkVars tb a lo hi w' p0 p1 p2 p3 p4 ∧ Only [] w w' := by
  have hmf : ∀ (fn : Fn) (first cap : Array Value) (w : World), (Instr.makeFunc fn first cap).run Try.prog w = .ok (.func fn first cap) w := fun _ _ _ _ => rfl
  go_enter Try.func37, Try.ntmps37
  go_wp2_with fail
  go_ret
  refine ⟨w.heap.size + 3, w.heap.size + 4, w.heap.size + 1, w.heap.size + 2, w.heap.size, rfl, ⟨?_, ?_, ?_, ?_, ?_⟩, ((((Only.alloc [] _ _).trans (Only.alloc [] _ _)).trans (Only.alloc [] _ _)).trans (Only.alloc [] _ _)).trans (Only.alloc [] _ _)⟩
  · have := (Blk.new ((((w.alloc (.cells #[.pointer (some ⟨tb, 0, none⟩)] 29)).alloc (.cells #[.pointer none] 94))).alloc (.cells #[.int .i64 a] 3)) #[.int .i64 lo] 3).alloc (.cells #[.int .i64 hi] 3)
    simpa using this.cell 0 rfl
  · have := Blk.new (((((w.alloc (.cells #[.pointer (some ⟨tb, 0, none⟩)] 29)).alloc (.cells #[.pointer none] 94))).alloc (.cells #[.int .i64 a] 3)).alloc (.cells #[.int .i64 lo] 3)) #[.int .i64 hi] 3
    simpa using this.cell 0 rfl
  · have := (((Blk.new (w.alloc (.cells #[.pointer (some ⟨tb, 0, none⟩)] 29)) #[.pointer none] 94).alloc (.cells #[.int .i64 a] 3)).alloc (.cells #[.int .i64 lo] 3)).alloc (.cells #[.int .i64 hi] 3)
    simpa using this.cell 0 rfl
  · have := ((Blk.new ((w.alloc (.cells #[.pointer (some ⟨tb, 0, none⟩)] 29)).alloc (.cells #[.pointer none] 94)) #[.int .i64 a] 3).alloc (.cells #[.int .i64 lo] 3)).alloc (.cells #[.int .i64 hi] 3)
    simpa using this.cell 0 rfl
  · exact (((((Blk.new w #[.pointer (some ⟨tb, 0, none⟩)] _).alloc _).alloc _).alloc _).alloc _).cell 0 rfl

/-- All pairs have come. -/
def CameP (eb wb xb ob nb base : Nat) (v : Value) (M : List KV) (w : World) (e : Ending) (w' : World) : Prop :=
  e = .returned (.tuple #[]) ∧ ∃ v', GotP w' eb wb xb ob nb base v' M ∧ Only (gotP eb wb xb ob nb v) w w' ∧ ∀ b, v'.ownBlock = some b → v.ownBlock = some b ∨ w.heap.size ≤ b

set_option maxRecDepth 100000 in
set_option maxHeartbeats 4000000 in
theorem walk_one {A : PA} {n : Nat} {S : Nat → Sl} {t : Int} {fs : List Nat} {fa : Int} {tb eb wb xb ob nb base : Nat} {v : Value} {w : World} {ox : Option Tr} {p0 p1 p2 p3 p4 : Nat} {lo hi : Int} (h : Wcx A n S t fs fa tb eb wb xb ob nb base v [] w) (R : RepO n S ox) (hl : cntO ox ≤ 1000000) (k1 : isK lo = true) (k2 : isK hi = true)
    (c : WalkVars tb (rootOf S ox) lo hi w p0 p1 p2 p3 p4) :
    Calls Try.prog 66 #[yldP eb wb xb ob nb, .pointer (some ⟨p0, 0, none⟩), .pointer (some ⟨p1, 0, none⟩), .pointer (some ⟨p2, 0, none⟩), .pointer (some ⟨p3, 0, none⟩), .pointer (some ⟨p4, 0, none⟩)] w (CameP eb wb xb ob nb base v (win lo hi (prs ox)) w) := by
  have HKL := Lib.hid (fun w => trie_key lo w)
  have HKH := Lib.hid (fun w => trie_key hi w)
  rw [k1] at HKL
  rw [k2] at HKH
  have HH := Lib.hid h
  have HC0 := Lib.hid c
  obtain ⟨c0, c1, c2, c3, c4⟩ := c
  cases ox with
  | none =>
    have hf : CameP eb wb xb ob nb base v (win lo hi (prs none)) w (.returned (.tuple #[])) w := ⟨rfl, v, by simpa [win, prs] using HH.out.got, Only.refl _ _, fun b hb => Or.inl hb⟩
    have HF := Lib.hid hf
    have c3' : w.cell? ⟨p3, 0, none⟩ = some (.int .i64 0) := c3
    clear h R hl hf c3 k1 k2
    unfold yldP
    go_enter Try.func66, Try.ntmps66
    go_wp2_with fail
    refine (HKL.out _).mono ?_
    rintro e w1 ⟨rfl, rfl⟩
    go_wp2_with fail
    refine (HKH.out _).mono ?_
    rintro e w1 ⟨rfl, rfl⟩
    go_wp2_with fail
    go_end0
    exact HF.out
  | some x =>
    have hp := hnd_pos R.1
    have HRT := Lib.hid (fun W (o : Only [] w W) => trie_root (h.tr.plain o) R.1 R.2)
    have HAL := Lib.hid (fun W (o : Only [] w W) => walk_all (lo := lo) (hi := hi) x R.1 R.2 v [] W (h.plain o) (by have : x.cnt ≤ 1000000 := hl; simpa using this))
    obtain ⟨ty, sv, hsv⟩ := shV_one S x
    simp only [ndV_agg, hsv] at HRT HAL
    have c3' : w.cell? ⟨p3, 0, none⟩ = some (.int .i64 (hnd S x)) := c3
    have HC0' : Hid (WalkVars tb (hnd S x) lo hi w p0 p1 p2 p3 p4) := Lib.hid HC0.out
    show Calls _ _ _ _ (CameP eb wb xb ob nb base v (win lo hi x.pairs) w)
    obtain ⟨hx, hhx⟩ : ∃ u, hnd S x = u := ⟨_, rfl⟩
    obtain ⟨M, hM⟩ : ∃ u, win lo hi x.pairs = u := ⟨_, rfl⟩
    rw [hhx] at hp HRT HAL c3' HC0'
    rw [hM] at HAL ⊢
    have e1 : (hx == 0) = false := by simp; omega
    clear h R hl hsv hhx c3 HC0 hM k1 k2
    unfold yldP at HAL ⊢
    go_enter Try.func66, Try.ntmps66
    go_wp2_with fail
    refine (HKL.out _).mono ?_
    rintro e w1 ⟨rfl, rfl⟩
    go_wp2_with fail
    refine (HKH.out _).mono ?_
    rintro e w1 ⟨rfl, rfl⟩
    go_wp2_with fail
    refine (HRT.out _ (Only.refl _ _)).mono ?_
    rintro e w1 ⟨rfl, hX1⟩
    clear c0 c1 c2 c3' c4
    go_upto_region 4 with fail
    refine wp_name (fun w2 => Blk w2 w1.heap.size #[.int .i64 hx, .iface ty sv] 125 ∧ Only [] w w2) ⟨Blk.new _ _ _, hX1.trans (Only.alloc _ _ _)⟩ ?_
    generalize w1.heap.size = n1
    rintro w2 ⟨hN, hX2⟩
    obtain ⟨c0, c1, c2, c3, c4⟩ := HC0'.out.plain hX2
    have m0 := hN.cell 0 rfl
    have m1 := hN.cell 1 rfl
    have HX2 := Lib.hid hX2
    have HC := Lib.hid (HAL.out w2 hX2)
    clear hX1 hN hX2
    go_wp2_with fail
    refine HC.out.mono ?_
    rintro e w3 ⟨rfl, v3, hG3, hX3, hv3⟩
    have HG3 := Lib.hid hG3
    have HX3 := Lib.hid hX3
    have HV3 := Lib.hid hv3
    clear hG3 hX3 hv3 c0 c1 c2 c3 c4 m0 m1 HC
    go_wp2_with fail
    go_end0
    exact ⟨rfl, v3, by simpa using HG3.out, (HX2.out.mono (by simp)).trans HX3.out, fun b hb => (HV3.out b hb).imp id (fun h => Nat.le_trans HX2.out.size h)⟩

/-- The pairs that were given. -/
def GivenP (M : List KV) (w : World) (e : Ending) (w' : World) : Prop :=
  ∃ v', e = .returned (.tuple #[v', .int .i64 0, .bool true]) ∧ w'.ownsRow w.heap.size 56 2 v' M.length (prsC M) ∧ Only [] w w'

set_option maxRecDepth 100000 in
set_option maxHeartbeats 4000000 in
theorem given_walk {A : PA} {n : Nat} {S : Nat → Sl} {t : Int} {fs : List Nat} {fa : Int} {tb : Nat} {w : World} {ox : Option Tr} {p0 p1 p2 p3 p4 : Nat} {lo hi : Int} (T : TrAt w tb A n S t fs fa) (R : RepO n S ox) (hl : cntO ox ≤ 1000000) (k1 : isK lo = true) (k2 : isK hi = true)
    (c : WalkVars tb (rootOf S ox) lo hi w p0 p1 p2 p3 p4) :
    Calls Try.prog 36 #[walkV p0 p1 p2 p3 p4, .int .i64 (-1)] w (GivenP (win lo hi (prs ox)) w) := by
  have HIN := Lib.hid (show TrAt w tb A n S t fs fa ∧ RepO n S ox ∧ cntO ox ≤ 1000000 ∧ isK lo = true ∧ isK hi = true ∧ WalkVars tb (rootOf S ox) lo hi w p0 p1 p2 p3 p4 from ⟨T, R, hl, k1, k2, c⟩)
  have HLT := Lib.hid T.lt
  clear T R hl k1 k2 c
  have heq : ∀ fn fi ca w, (binOp .eql 109 (.func fn fi ca) .nilFunc).run Try.prog w = .ok (.bool false) w := fun _ _ _ _ => rfl
  unfold walkV
  go_enter Try.func36, Try.ntmps36
  go_upto_region 4 with fail
  refine wp_name (fun w1 => Blk w1 w.heap.size #[.int .i64 (-1)] 3 ∧ Blk w1 (w.heap.size + 1) #[.slice none 0 0] 31 ∧ Only [] w w1) ⟨(Blk.new _ _ _).alloc _, ?_, (Only.alloc [] _ _).trans (Only.alloc [] _ _)⟩ ?_
  · have := Blk.new (w.alloc (.cells #[.int .i64 (-1)] 3)) #[.slice none 0 0] 31
    simpa using this
  obtain ⟨nb, hnb⟩ : ∃ b, w.heap.size = b := ⟨_, rfl⟩
  have HNB := Lib.hid hnb
  obtain ⟨ob, hob⟩ : ∃ b, w.heap.size + 1 = b := ⟨_, rfl⟩
  have HOB := Lib.hid hob
  rw [hob]
  rw [hnb]
  clear hnb hob
  rintro w1 ⟨hN, hO, hX1⟩
  clear heq
  have n0 : w1.cell? ⟨nb, 0, none⟩ = some (.int .i64 (-1)) := hN.cell 0 rfl
  have n1 : ∀ o, (w1.alloc o).cell? ⟨nb, 0, none⟩ = some (.int .i64 (-1)) := fun o => (hN.alloc o).cell 0 rfl
  have n2 : ∀ o o2, ((w1.alloc o).alloc o2).cell? ⟨nb, 0, none⟩ = some (.int .i64 (-1)) := fun o o2 => ((hN.alloc o).alloc o2).cell 0 rfl
  have n3 : ∀ o o2 o3, (((w1.alloc o).alloc o2).alloc o3).cell? ⟨nb, 0, none⟩ = some (.int .i64 (-1)) := fun o o2 o3 => (((hN.alloc o).alloc o2).alloc o3).cell 0 rfl
  go_cut [8, 9, 10] (fun s8 s9 s10 wc => ∃ xb wb eb, s8 = .pointer (some ⟨xb, 0, none⟩) ∧ s9 = .pointer (some ⟨wb, 0, none⟩) ∧ s10 = .pointer (some ⟨eb, 0, none⟩) ∧ Blk wc xb #[.int .i64 0] 3 ∧ Blk wc wb #[.bool true] 4 ∧ Blk wc eb #[.bool false] 4 ∧ w1.heap.size ≤ xb ∧ w1.heap.size ≤ wb ∧ w1.heap.size ≤ eb ∧ eb ≠ wb ∧ eb ≠ xb ∧ Only [] w1 wc)
  case first =>
    go_region
    all_goals go_wp2_with fail
    all_goals go_meet
    all_goals
      refine ⟨_, _, _, rfl, rfl, rfl, ?_, ?_, ?_, by omega, by omega, by omega, by omega, by omega, (three_new _ _ _ _ _ _ _).2.2.2⟩ <;>
        first | exact (three_new _ _ _ _ _ _ _).1 | exact (three_new _ _ _ _ _ _ _).2.1 | exact (three_new _ _ _ _ _ _ _).2.2.1
  case rest =>
  obtain ⟨xb, wb, eb, rfl, rfl, rfl, hx, hw, he, l1, l2, l3, ne1, ne2, hX2⟩ := hcut
  have hob : ob < w1.heap.size := hO.lt
  have hnb : nb < w1.heap.size := hN.lt
  have hbs : nb + 1 = ob := by have := HNB.out; have := HOB.out; omega
  have hXX := hX1.trans hX2
  have hG : GotP wc eb wb xb ob nb nb (.slice none 0 0) [] := ⟨he, hw, hx, hO.only hX2 (by simp), hN.only hX2 (by simp), World.ownsRow_nil _ _ _ _, ⟨by omega, by omega, by omega, ne1, ne2, by omega, by omega⟩, fun b hb => by simp [Value.ownBlock] at hb⟩
  have hge : ∀ k, k ∈ gotP eb wb xb ob nb (.slice none 0 0) → w.heap.size ≤ k := by
    intro k hk
    have := HNB.out
    have := hX1.size
    simp [gotP, Value.ownBlock] at hk
    omega
  have e0 := he.cell 0 rfl
  have hWX : Wcx A n S t fs fa tb eb wb xb ob nb nb (.slice none 0 0) [] wc := ⟨HIN.out.1.plain hXX, hG, fun hm => by have := hge _ hm; have := HLT.out.1; omega, fun k hk hm => by have := hge _ hm; have := HLT.out.2 _ hk; omega, by have := hXX.size; have := HNB.out; omega⟩
  have HD1 := Lib.hid (walk_one hWX HIN.out.2.1 HIN.out.2.2.1 HIN.out.2.2.2.1 HIN.out.2.2.2.2.1 (HIN.out.2.2.2.2.2.plain hXX))
  have HXX := Lib.hid hXX
  have HGE := Lib.hid hge
  unfold yldP at HD1
  have hmf : ∀ (fn : Fn) (first cap : Array Value) (w : World), (Instr.makeFunc fn first cap).run Try.prog w = .ok (.func fn first cap) w := fun _ _ _ _ => rfl
  clear hx hw he hX2 hXX hG hge hN hO hX1 n0 n1 n2 n3 hWX
  go_wp2_with fail
  refine HD1.out.mono ?_
  rintro e w4 ⟨rfl, v4, hG4, hX4, hv4⟩
  have hown := hG4.own
  obtain ⟨ad, cap, rfl⟩ := own_slice_any hown
  have o0 := hG4.o.cell 0 rfl
  have x0 := hG4.x.cell 0 rfl
  have w0 := hG4.wl.cell 0 rfl
  have HOWN := Lib.hid hown
  have HX4 := Lib.hid hX4
  clear hG4 hX4 hv4 hown HD1 e0 hmf
  go_wp2_with fail
  go_quiet (fail)
  go_wp2_with fail
  go_ret3
  refine ⟨_, rfl, ?_, (HXX.out.past HX4.out (fun i hi => Or.inr (HGE.out i hi))).trans (Only.drewN _ _ _)⟩
  rw [HNB.out]
  exact ownsRow_only HOWN.out (Only.drewN [] _ _) (fun b hb => by simp)

end Go.Proofs.Ytacegkjobfeiiaa

