/- A map[int]bool that is used as a set: what is told of it, looked up, put, deleted. Conditions: each law names them. · Whose nodes are whose: shares as a call. Conditions: both maps stand in memory, the rows of what is gone and made hold the handles that part them. · A change of a row of versions, with what is told of the slots: those gone, those made. Plain laws, and changed for any change. Conditions: named in the structures. · shares, of a version and the next one, as a call. Conditions: both maps stand in memory, their slots part as the lists say. · What a map tells at each of its pairs: Find, Rank, Select, Next as calls. Conditions: the map stands in memory as TrAt and RepO say, the pair is its i-th. · Small laws of what a map tells: windows, counts of nodes, Next in one word. Conditions: the map stands in memory as TrAt and RepO say. -/
import Derived.Maps.OwnSet
import Derived.Deep.RegionHeld3
import Derived.Test.YtacegkjobfeiiaaCNodeX
import Derived.Test.YtacegkjobfeiiaaCAskX
import Derived.Test.YtacegkjobfeiiaaCRowsX
import Derived.Test.YtacegkjobfeiiaaCTrieAE
import Derived.Test.YtacegkjobfeiiaaCVersX
import Derived.Test.YtacegkjobfeiiaaCWalkX
set_option linter.unusedVariables false
set_option linter.unusedSimpArgs false
set_option linter.unusedSectionVars false
set_option linter.unnecessarySimpa false
namespace Go.Proofs.Ytacegkjobfeiiaa
open Go.RowKit
open Go.Maps (Keyed IsMap Tidy)

theorem tyInt : Try.prog.underlying 3 = some (.int .i64) := by kernel_rfl
theorem tyBool : Try.prog.underlying 4 = some .bool := by kernel_rfl
theorem tySet : Try.prog.underlying 105 = some (.map 3 4) := by kernel_rfl
theorem keySet : Keyed Try.prog 3 := Maps.int_keyed tyInt
theorem zeroSet (w : World) : (zeroValue 4).run Try.prog w = .ok (.bool false) w := by kernel_rfl

abbrev DSet := DataW Unit

/-- Block b is a set of the numbers in L (each once), of at most n entries. -/
def MSet (w : World) (b n : Nat) (L : List Int) : Prop :=
  ∃ D : DSet, w.ownsMap Try.prog 3 (plainElem Try.prog 4) b n D ∧ (∀ k, D.atKey (.int .i64 k) (.lit (.bool false)) = .lit (.bool (decide (k ∈ L)))) ∧ (∀ k, Maps.has D (.int .i64 k) = decide (k ∈ L)) ∧ Maps.size D = L.length

theorem MSet.only {X : List Nat} {w w' : World} {b n : Nat} {L : List Int} (h : MSet w b n L) (o : Only X w w') (hb : b ∉ X) : MSet w' b n L := by
  obtain ⟨D, h1, h2⟩ := h
  have hl := h1.lt
  obtain ⟨es, clock, e1, e2⟩ := h1
  exact ⟨D, ⟨es, clock, by rw [o.at hl hb]; exact e1, e2⟩, h2⟩

theorem MSet.lt {w : World} {b n : Nat} {L : List Int} (h : MSet w b n L) : b < w.heap.size := by obtain ⟨D, h1, _⟩ := h; exact h1.lt

theorem MSet.mono {w : World} {b n m : Nat} {L : List Int} (h : MSet w b n L) (hm : n ≤ m) : MSet w b m L := by obtain ⟨D, h1, h2⟩ := h; exact ⟨D, h1.mono hm, h2⟩

theorem MSet.made (w : World) : MSet (w.alloc (.map #[] 0)) w.heap.size 0 [] :=
  ⟨.map [], World.ownsMap_made w _ _ _, fun k => by simp [DataW.atKey], fun k => by simp [Maps.has], rfl⟩

theorem MSet.congr {w : World} {b n : Nat} {L M : List Int} (h : MSet w b n L) (hm : ∀ k, k ∈ L ↔ k ∈ M) (hl : L.length = M.length) : MSet w b n M := by
  obtain ⟨D, h1, h2, h3, h4⟩ := h
  exact ⟨D, h1, fun k => by rw [h2]; simp [hm], fun k => by rw [h3]; simp [hm], by rw [h4, hl]⟩

theorem keyInt {k : Int} (hk : -9223372036854775808 ≤ k ∧ k ≤ 9223372036854775807) : keyOf Try.prog 3 (.int .i64 k) = some (.int .i64 k) :=
  Maps.keyOf_int_mk tyInt (by
    have h1 : IntKind.i64.min = -9223372036854775808 := by decide
    have h2 : IntKind.i64.max = 9223372036854775807 := by decide
    simp only [Lit.wf, h1, h2]; simp; omega)

theorem MSet.look {w : World} {b n : Nat} {L : List Int} (h : MSet w b n L) {k : Int} (hk : -9223372036854775808 ≤ k ∧ k ≤ 9223372036854775807) {x : Bool} (hx : decide (k ∈ L) = x) : (Instr.lookup 105 (.map (some b)) (.int .i64 k) false).run Try.prog w = .ok (.bool x) w := by
  obtain ⟨D, h1, h2, _⟩ := h
  obtain ⟨v, ps, hrun, hv⟩ := h1.lookup keySet tySet (zeroSet w) (plainElem_bool tyBool false) (keyInt hk)
  rw [h2 k, hx] at hv
  unfold plainElem at hv
  rw [tyBool] at hv
  cases v <;> simp at hv
  rw [hrun, hv.1]

theorem MSet.put {w : World} {b n : Nat} {L : List Int} (h : MSet w b n L) {k : Int} (hk : -9223372036854775808 ≤ k ∧ k ≤ 9223372036854775807) (hn : n < 1000000) (hL : k ∉ L) : ∃ w', (Instr.mapUpdate 105 (.map (some b)) (.int .i64 k) (.bool true)).run Try.prog w = .ok () w' ∧ MSet w' b (n + 1) (k :: L) ∧ Only [b] w w' := by
  obtain ⟨D, h1, h2, h3, h4⟩ := h
  obtain ⟨w', hrun, ho, hg⟩ := h1.update keySet tySet (by unfold maxLen; omega) (keyInt hk) (plainElem_bool tyBool true)
  have hm := h1.isMap
  refine ⟨w', hrun, ⟨_, ho, fun q => ?_, fun q => ?_, ?_⟩, Only.of_grown hg (by simp)⟩
  · by_cases e : q = k
    · subst e
      rw [Maps.atKey_put_same hm (show WideAt.IsKeyLit (.int .i64 q) from trivial)]; simp
    · rw [Maps.atKey_put_other (by simpa using e), h2]; simp [e]
  · by_cases e : q = k
    · subst e
      rw [Maps.has_put_same hm (show WideAt.IsKeyLit (.int .i64 q) from trivial)]; simp
    · rw [Maps.has_put_other (by simpa using e), h3]; simp [e]
  · rw [Maps.size_put (h1.tidy keySet), h3, h4]
    simp [hL]

theorem MSet.del {w : World} {b n : Nat} {L M : List Int} (h : MSet w b n L) {k : Int} (hk : -9223372036854775808 ≤ k ∧ k ≤ 9223372036854775807) (hL : L.Perm (k :: M)) (hM : k ∉ M) : ∃ w', (∀ ty, (Builtin.delete_ #[105, 3] ty #[.map (some b), .int .i64 k]).run Try.prog w = .ok (.tuple #[]) w') ∧ MSet w' b n M ∧ Only [b] w w' := by
  obtain ⟨D, h1, h2, h3, h4⟩ := h
  obtain ⟨w', hrun, ho, hg⟩ := h1.drop keySet tySet (keyInt hk) 0
  have hmem : ∀ q, q ∈ L ↔ q = k ∨ q ∈ M := fun q => by rw [hL.mem_iff]; simp
  refine ⟨w', fun ty => hrun, ⟨_, ho, fun q => ?_, fun q => ?_, ?_⟩, Only.of_grown hg.grown (by simp)⟩
  · by_cases e : q = k
    · subst e
      rw [Maps.atKey_del_same]; simp [hM]
    · rw [Maps.atKey_del_other (by simpa using e), h2]; simp [hmem, e]
  · by_cases e : q = k
    · subst e
      rw [Maps.has_del_same]; simp [hM]
    · rw [Maps.has_del_other (by simpa using e), h3]; simp [hmem, e]
  · have := Maps.size_del (k := .int .i64 k) (h1.tidy keySet)
    rw [h3, h4, hL.length_eq] at this
    have hk2 : decide (k ∈ L) = true := by simp [hmem]
    rw [hk2] at this
    simp at this
    omega

theorem MSet.len {w : World} {b n : Nat} {L : List Int} (h : MSet w b n L) {m : Nat} (hm : L.length = m) (ty : TypeId) : (Builtin.len_ #[105] ty #[.map (some b)]).run Try.prog w = .ok (.int .i64 (m : Nat)) w := by
  obtain ⟨D, h1, h2, h3, h4⟩ := h
  rw [h1.len tySet ty, h4, hm]

end Go.Proofs.Ytacegkjobfeiiaa

namespace Go.Proofs.Ytacegkjobfeiiaa
open Go.RowKit

/-- A row of numbers in memory. -/
structure IntRow (w : World) (ad : Option Addr) (g cap : Nat) (L : List Int) : Prop where
  ad : L ≠ [] → ad = some ⟨g, 0, none⟩
  fits : L.length ≤ cap
  cells : ∀ (j : Nat) (k : Int), L[j]? = some k → w.cell? ⟨g, j, none⟩ = some (.int .i64 k)
  lt : L ≠ [] → g < w.heap.size

theorem IntRow.only {X : List Nat} {w w' : World} {ad : Option Addr} {g cap : Nat} {L : List Int} (h : IntRow w ad g cap L) (o : Only X w w') (hX : L ≠ [] → g ∉ X) : IntRow w' ad g cap L := by
  refine ⟨h.ad, h.fits, fun j k hk => ?_, fun e => Nat.lt_of_lt_of_le (h.lt e) o.size⟩
  have hne : L ≠ [] := by intro e; subst e; simp at hk
  exact keep_off o (hX hne) (h.cells j k hk)

theorem introw_own {w : World} {base n : Nat} {v : Value} {L : List Int} (h : w.ownsRow base 3 1 v n (L.map (Value.int .i64))) : ∃ g ad cap, v = .slice ad L.length cap ∧ IntRow w ad g cap L ∧ base ≤ g ∧ n = L.length := by
  have hn : n = L.length := by have := h.1; simp at this; omega
  rcases h.2 with ⟨rfl, h1⟩ | ⟨g, cap, cur, rfl, hg, hb, hnc, hm, hs, ht⟩
  · have : L = [] := List.eq_nil_of_length_eq_zero (by omega)
    subst this
    exact ⟨base, none, 0, rfl, ⟨fun h => absurd rfl h, Nat.le_refl _, fun j k hk => by simp at hk, fun h => absurd rfl h⟩, Nat.le_refl _, hn⟩
  · refine ⟨g, _, cap, by rw [hn], ⟨fun _ => rfl, by omega, fun j k hk => ?_, fun _ => (Array.getElem?_eq_some_iff.1 hb).1⟩, hg, hn⟩
    have := h.cells (g := g) rfl j (.int .i64 k) (by simp [hk])
    rwa [Addr.add_lit, Nat.zero_add] at this

theorem IntRow.at {w : World} {ad : Option Addr} {g cap : Nat} {L : List Int} (h : IntRow w ad g cap L) {j : Nat} {k : Int} (hk : L[j]? = some k) : ad = some ⟨g, 0, none⟩ ∧ w.cell? ⟨g, j, none⟩ = some (.int .i64 k) ∧ g < w.heap.size := by
  have hne : L ≠ [] := by intro e; subst e; simp at hk
  exact ⟨h.ad hne, h.cells j k hk, h.lt hne⟩

theorem take_snoc {L : List Int} {i : Nat} {k : Int} (h : L[i]? = some k) : L.take (i + 1) = L.take i ++ [k] := by
  have hl := (List.getElem?_eq_some_iff.1 h)
  obtain ⟨hl, rfl⟩ := hl
  exact List.take_succ_eq_append_getElem hl

theorem drop_cons {L : List Int} {i : Nat} {k : Int} (h : L[i]? = some k) : L.drop i = k :: L.drop (i + 1) := by
  obtain ⟨hl, rfl⟩ := List.getElem?_eq_some_iff.1 h
  exact List.drop_eq_getElem_cons hl

theorem nodup_take_not {L : List Int} (hd : L.Nodup) {i : Nat} {k : Int} (h : L[i]? = some k) : k ∉ L.take i := by
  have h1 : (L.take (i + 1)).Nodup := hd.sublist (List.take_sublist _ _)
  rw [take_snoc h, List.nodup_append] at h1
  exact fun hm => h1.2.2 k hm k (by simp) rfl

set_option maxRecDepth 100000 in
set_option maxHeartbeats 8000000 in
theorem shares_core {ia ib ed0 ed1 : Int} {ed2 : Bool} {tv : Value} {X Y G M R : List Int} {gg gm cg cm : Nat} {ag am : Option Addr} {w : World}
    (hx : ∀ W, Only [] w W → Calls Try.prog 35 #[tv, .pointer none, .int .i64 ia] W fun e w' => ∃ v', e = .returned (.tuple #[v', .int .i64 0]) ∧ w'.ownsRow W.heap.size 3 1 v' X.length (X.map (Value.int .i64)) ∧ Only [] W w')
    (hy : ∀ W, Only [] w W → Calls Try.prog 35 #[tv, .pointer none, .int .i64 ib] W fun e w' => ∃ v', e = .returned (.tuple #[v', .int .i64 0]) ∧ w'.ownsRow W.heap.size 3 1 v' Y.length (Y.map (Value.int .i64)) ∧ Only [] W w')
    (hG : IntRow w ag gg cg G) (hM : IntRow w am gm cm M) (p1 : X.Perm (G ++ R)) (p2 : Y.Perm (M ++ R)) (d1 : X.Nodup) (d2 : Y.Nodup) (hX : X.length ≤ 100000) (hY : Y.length ≤ 100000) (rX : ∀ h, h ∈ X → 0 < h ∧ h ≤ 1152921504606846975) (rY : ∀ h, h ∈ Y → 0 < h ∧ h ≤ 1152921504606846975) :
    Calls Try.prog 17 #[tv, .int .i64 ia, .int .i64 ib, .agg #[.int .i64 ed0, .int .i64 ed1, .bool ed2, .slice ag G.length cg, .slice am M.length cm]] w fun e w' => e = .returned (.bool true) ∧ Only [] w w' := by
  have HX := Lib.hid hx
  have HY := Lib.hid hy
  have HG := Lib.hid hG
  have HM := Lib.hid hM
  have HP := Lib.hid (And.intro p1 (And.intro p2 (And.intro d1 (And.intro d2 (And.intro rX rY)))))
  have hlG : G.length + R.length = X.length := by have := p1.length_eq; simp at this; omega
  have hlM : M.length + R.length = Y.length := by have := p2.length_eq; simp at this; omega
  have hdG : (G ++ R).Nodup := p1.nodup_iff.1 d1
  have hdM : (M ++ R).Nodup := p2.nodup_iff.1 d2
  have HDG := Lib.hid hdG
  have HDM := Lib.hid hdM
  have hcg := hG.fits
  have hcm := hM.fits
  clear hx hy hG hM p1 p2 d1 d2 rX rY hdG hdM
  obtain ⟨nx, hnx⟩ : ∃ q, X.length = q := ⟨_, rfl⟩
  obtain ⟨ny, hny⟩ : ∃ q, Y.length = q := ⟨_, rfl⟩
  obtain ⟨ng, hng⟩ : ∃ q, G.length = q := ⟨_, rfl⟩
  obtain ⟨nm, hnm⟩ : ∃ q, M.length = q := ⟨_, rfl⟩
  obtain ⟨nr, hnr⟩ : ∃ q, R.length = q := ⟨_, rfl⟩
  rw [hnx] at hX hlG
  rw [hny] at hY hlM
  rw [hng] at hlG hcg ⊢
  rw [hnm] at hlM hcm ⊢
  rw [hnr] at hlG hlM
  have HN := Lib.hid (And.intro hnx (And.intro hny (And.intro hng (And.intro hnm hnr))))
  clear hnx hny hng hnm hnr
  go_enter Try.func17, Try.ntmps17
  go_upto_region 1 with fail
  refine wp_name (fun w1 => Blk w1 w.heap.size #[.int .i64 ed0, .int .i64 ed1, .bool ed2, .slice ag ng cg, .slice am nm cm] 38 ∧ Only [] w w1) ⟨Blk.new _ _ _, Only.alloc _ _ _⟩ ?_
  obtain ⟨eb, heb⟩ : ∃ q, w.heap.size = q := ⟨_, rfl⟩
  have HEB := Lib.hid heb
  rw [heb]
  clear heb
  rintro w1 ⟨hB, hX1⟩
  have HB := Lib.hid hB
  have HC1 := Lib.hid (HX.out w1 hX1)
  have HX1 := Lib.hid hX1
  clear hB hX1
  go_wp2_with fail
  refine HC1.out.mono ?_
  rintro e w2 ⟨v2, rfl, hown, hX2⟩
  obtain ⟨g2, a2, c2, rfl, hR2, hg2, _⟩ := introw_own hown
  rw [HN.out.1]
  have hc2 := hR2.fits
  rw [HN.out.1] at hc2
  have HR2 := Lib.hid hR2
  have HX23 := Lib.hid hX2
  have HX2 := Lib.hid (HX1.out.trans hX2)
  clear hown hR2 hX2 hg2 HC1
  go_wp2_with fail
  refine (HY.out w2 HX2.out).mono ?_
  rintro e w3 ⟨v3, rfl, hown, hX3⟩
  obtain ⟨g3, a3, c3, rfl, hR3, hg3, _⟩ := introw_own hown
  rw [HN.out.2.1]
  have hc3 := hR3.fits
  rw [HN.out.2.1] at hc3
  have HR3 := Lib.hid hR3
  have HR2' := Lib.hid (HR2.out.only hX3 (by simp))
  have HX23 := Lib.hid (HX23.out.trans hX3)
  have HX3 := Lib.hid (HX2.out.trans hX3)
  clear hown hR3 hX3 hg3 HR2
  have hmk : ∀ w, (Instr.makeMap 105 none).run Try.prog w = .ok (.map (some w.heap.size)) (w.alloc (.map #[] 0)) := fun w => by kernel_rfl
  go_upto_region 6 with (go_at_call 8; refine (num_12 _ _).mono ?_; rintro e w' ⟨rfl, rfl⟩)
  refine wp_name (fun w4 => MSet w4 w3.heap.size 0 [] ∧ Only [] w3 w4) ⟨MSet.made _, Only.alloc _ _ _⟩ ?_
  clear hmk
  obtain ⟨mb, hmb⟩ : ∃ q, w3.heap.size = q := ⟨_, rfl⟩
  have HMB : Hid (eb < mb ∧ w.heap.size ≤ mb ∧ (X ≠ [] → g2 < mb) ∧ (Y ≠ [] → g3 < mb) ∧ (G ≠ [] → gg < mb) ∧ (M ≠ [] → gm < mb)) := Lib.hid (by
    have h1 := HEB.out; have h2 := HX3.out.size; have h3 := HB.out.lt; have h4 := HX1.out.size
    have h5 := HX2.out.size
    refine ⟨?_, by omega, fun h => hmb ▸ HR2'.out.lt h, fun h => hmb ▸ HR3.out.lt h, fun h => by have := HG.out.lt h; omega, fun h => by have := HM.out.lt h; omega⟩
    have := (HB.out.only HX23.out (by simp)).lt
    omega)
  rw [hmb]
  clear hmb
  rintro w4 ⟨hS, hX4⟩
  have HS := Lib.hid hS
  have HX4 := Lib.hid (HX3.out.trans hX4)
  have HB4 := Lib.hid ((HB.out.only HX23.out (by simp)).only hX4 (by simp))
  have HR2 := Lib.hid (HR2'.out.only hX4 (by simp))
  have HR3' := Lib.hid (HR3.out.only hX4 (by simp))
  clear hS hX4 HR2' HR3 HX3 HX2 HX1 HB HX HY HX23
  go_wp2_with fail
  go_loopg [14] nx (fun gk s14 wr => ∃ i : Nat, i + gk = nx ∧ s14 = .int .i64 (i : Nat) ∧ MSet wr mb i (X.take i) ∧ Only [mb] w4 wr)
  case atStart => exact ⟨0, by omega, rfl, by simpa using HS.out, Only.refl _ _⟩
  case round =>
    obtain ⟨i, hi, rfl, hS, hXr⟩ := hrel
    have HI := Lib.hid hi
    by_cases hlt : i < nx
    · obtain ⟨k, hk⟩ : ∃ k, X[i]? = some k := ⟨_, List.getElem?_eq_getElem (by have := HN.out.1; omega)⟩
      have hne : X ≠ [] := by intro e; subst e; simp at hk
      obtain ⟨rfl, x0, _⟩ := (HR2.out.only hXr (fun h => by have := HMB.out.2.2.1 h; simp; omega)).at hk
      have hkr := HP.out.2.2.2.2.1 k (List.mem_of_getElem? hk)
      obtain ⟨w5, hrun, hS5, hX5⟩ := hS.put (k := k) (by omega) (by omega) (nodup_take_not HP.out.2.2.1 hk)
      have HS5 := Lib.hid (show MSet w5 mb (i + 1) (X.take (i + 1)) from hS5.congr (fun q => by rw [take_snoc hk]; simp [or_comm]) (by rw [take_snoc hk]; simp))
      have HX5 := Lib.hid (hXr.trans hX5)
      have hii : (i : Int) < nx := by omega
      clear hS hXr hS5 hX5 hk hne hkr hi
      go_wp2_with fail
      go_roundg (gk - 1)
      case measure => have := HI.out; omega
      case rel => exact ⟨i + 1, by have := HI.out; omega, by go_num, HS5.out, HX5.out⟩
    · have hin : i = nx := by omega
      subst hin
      have HS0 := Lib.hid (show MSet wr mb i (G ++ R) from hS.congr (fun q => by rw [← HN.out.1, List.take_length]; exact HP.out.1.mem_iff) (by rw [← HN.out.1, List.take_length]; exact HP.out.1.length_eq))
      have HXr := Lib.hid hXr
      clear hS hXr hi hlt
      go_wp2_with fail
      go_loopg [15] ng (fun gk s15 wq => ∃ j : Nat, j + gk = ng ∧ s15 = .int .i64 (j : Nat) ∧ MSet wq mb i (G.drop j ++ R) ∧ Only [mb] w4 wq)
      case atStart => exact ⟨0, by omega, rfl, by simpa using HS0.out, HXr.out⟩
      case round =>
        obtain ⟨j, hj, rfl, hS, hXq⟩ := hrel
        have HJ := Lib.hid hj
        have hBq := HB4.out.only hXq (by simp; have := HMB.out.1; omega)
        have c3 := hBq.cell 3 rfl
        have HBQ := Lib.hid hBq
        clear hBq
        by_cases hlt : j < ng
        · obtain ⟨k, hk⟩ : ∃ k, G[j]? = some k := ⟨_, List.getElem?_eq_getElem (by have := HN.out.2.2.1; omega)⟩
          obtain ⟨rfl, x0, _⟩ := ((HG.out.only HX4.out (by simp)).only hXq (fun h => by have := HMB.out.2.2.2.2.1 h; simp; omega)).at hk
          have hmem : k ∈ X := HP.out.1.mem_iff.2 (by simp [List.mem_of_getElem? hk])
          have hkr := HP.out.2.2.2.2.1 k hmem
          have hdr := drop_cons hk
          have hnd : (k :: (G.drop (j + 1) ++ R)).Nodup := by
            have : (G.drop j ++ R).Nodup := HDG.out.sublist (List.Sublist.append (List.drop_sublist _ _) (List.Sublist.refl _))
            rw [hdr] at this
            exact this
          have hlk := hS.look (k := k) (x := true) (by omega) (by rw [hdr]; simp)
          obtain ⟨w5, hrun, hS5, hX5⟩ := hS.del (k := k) (M := G.drop (j + 1) ++ R) (by omega) (by rw [hdr]; exact List.Perm.refl _) (List.nodup_cons.1 hnd).1
          have HS5 := Lib.hid hS5
          have HX5 := Lib.hid (hXq.trans hX5)
          have hjj : (j : Int) < ng := by omega
          clear hS hXq hS5 hX5 hk hkr hj hmem hdr hnd
          go_wp2_with fail
          go_roundg (gk - 1)
          case measure => have := HJ.out; omega
          case rel => exact ⟨j + 1, by have := HJ.out; omega, by go_num, HS5.out, HX5.out⟩
        · have hjn : j = ng := by omega
          subst hjn
          have HS1 := Lib.hid (show MSet wr mb i R from by have := hS; rw [List.drop_of_length_le (by rw [HN.out.2.2.1]; exact Nat.le_refl _)] at this; exact this)
          have HXq := Lib.hid hXq
          clear hS hXq hj hlt
          go_wp2_with fail
          clear c3
          go_loopg [16] nm (fun gk s16 wp => ∃ q : Nat, q + gk = nm ∧ s16 = .int .i64 (q : Nat) ∧ MSet wp mb (i + q) (M.take q ++ R) ∧ Only [mb] w4 wp)
          case atStart => exact ⟨0, by omega, rfl, by simpa using HS1.out, HXq.out⟩
          case round =>
            obtain ⟨q, hq, rfl, hS, hXp⟩ := hrel
            have HQ := Lib.hid hq
            have hBp := HB4.out.only hXp (by simp; have := HMB.out.1; omega)
            have c4 := hBp.cell 4 rfl
            clear hBp
            by_cases hlt : q < nm
            · obtain ⟨k, hk⟩ : ∃ k, M[q]? = some k := ⟨_, List.getElem?_eq_getElem (by have := HN.out.2.2.2.1; omega)⟩
              obtain ⟨rfl, x0, _⟩ := ((HM.out.only HX4.out (by simp)).only hXp (fun h => by have := HMB.out.2.2.2.2.2 h; simp; omega)).at hk
              have hmem : k ∈ Y := HP.out.2.1.mem_iff.2 (by simp [List.mem_of_getElem? hk])
              have hkr := HP.out.2.2.2.2.2 k hmem
              have hno : k ∉ M.take q ++ R := by
                have h1 := List.nodup_append.1 HDM.out
                simp only [List.mem_append, not_or]
                exact ⟨nodup_take_not h1.1 hk, fun hm => h1.2.2 k (List.mem_of_getElem? hk) k hm rfl⟩
              have hlk := hS.look (k := k) (x := false) (by omega) (by simpa using hno)
              obtain ⟨w5, hrun, hS5, hX5⟩ := hS.put (k := k) (by omega) (by omega) hno
              have HS5 := Lib.hid (show MSet w5 mb (i + (q + 1)) (M.take (q + 1) ++ R) from hS5.congr (fun z => by rw [take_snoc hk]; simp only [List.mem_cons, List.mem_append, List.not_mem_nil, or_false]; rw [or_assoc]; exact or_left_comm) (by rw [take_snoc hk]; simp; omega))
              have HX5 := Lib.hid (hXp.trans hX5)
              have hqq : (q : Int) < nm := by omega
              clear hS hXp hS5 hX5 hk hkr hq hmem hno
              go_wp2_with fail
              go_roundg (gk - 1)
              case measure => have := HQ.out; omega
              case rel => exact ⟨q + 1, by have := HQ.out; omega, by go_num, HS5.out, HX5.out⟩
            · have hqn : q = nm := by omega
              subst hqn
              have hS2 : MSet wr mb (i + q) (M ++ R) := by have := hS; rw [List.take_of_length_le (by rw [HN.out.2.2.2.1]; exact Nat.le_refl _)] at this; exact this
              have HS2 := Lib.hid hS2
              have HXp := Lib.hid hXp
              clear hS hXp hq hlt hS2
              go_wp2_with fail
              clear c4
              go_loopg [17] ny (fun gk s17 wz => ∃ z : Nat, z + gk = ny ∧ s17 = .int .i64 (z : Nat) ∧ wz = wr)
              case atStart => exact ⟨0, by omega, rfl, rfl⟩
              case round =>
                obtain ⟨z, hz, rfl, rfl⟩ := hrel
                have HZ := Lib.hid hz
                by_cases hlt : z < ny
                · obtain ⟨k, hk⟩ : ∃ k, Y[z]? = some k := ⟨_, List.getElem?_eq_getElem (by have := HN.out.2.1; omega)⟩
                  obtain ⟨rfl, x0, _⟩ := (HR3'.out.only HXp.out (fun h => by have := HMB.out.2.2.2.1 h; simp; omega)).at hk
                  have hmem : k ∈ Y := List.mem_of_getElem? hk
                  have hkr := HP.out.2.2.2.2.2 k hmem
                  have hlk := HS2.out.look (k := k) (x := true) (by omega) (by simp only [decide_eq_true_eq]; exact HP.out.2.1.mem_iff.1 hmem)
                  have hzz : (z : Int) < ny := by omega
                  clear hk hkr hz hmem
                  go_wp2_with fail
                  go_roundg (gk - 1)
                  case measure => have := HZ.out; omega
                  case rel => exact ⟨z + 1, by have := HZ.out; omega, by go_num, rfl⟩
                · have hzn : z = ny := by omega
                  subst hzn
                  have hln := HS2.out.len (m := z) (by have h1 := HN.out; simp; omega)
                  clear hz hlt
                  go_wp2_with fail
                  go_ret
                  exact ⟨rfl, HX4.out.past HXp.out (fun b hb => by simp at hb; subst hb; exact Or.inr HMB.out.2.1)⟩

end Go.Proofs.Ytacegkjobfeiiaa

namespace Go.Proofs.Ytacegkjobfeiiaa
open Go.RowKit

theorem rep_rng {n : Nat} {S : Nat → Sl} {ox : Option Tr} (h : RepO n S ox) : ∀ i, i ∈ slotsO ox → Alive n S i := by
  cases ox with
  | none => intro i hi; simp [slotsO] at hi
  | some x => exact fun i hi => h.1.alive_all i hi

theorem rep_off {n : Nat} {S : Nat → Sl} {fs : List Nat} {c : Int} {ox : Option Tr} (F : Fre n S fs c) (h : RepO n S ox) : ∀ i, i ∈ slotsO ox → i ∉ fs := by
  cases ox with
  | none => intro i hi; simp [slotsO] at hi
  | some x => exact fun i hi => F.out h.1 i hi

theorem slots_len {n : Nat} {S : Nat → Sl} {ox : Option Tr} (h : RepO n S ox) (hd : (slotsO ox).Nodup) : (slotsO ox).length ≤ n :=
  nodup_length n _ hd (fun i hi => by obtain ⟨h1, h2, _⟩ := rep_rng h i hi; omega)

/-- Handles of slots in use are unlike where the slots are. -/
theorem wd_inj {n : Nat} {S : Nat → Sl} {i j : Nat} (hn : n ≤ 4096) (hi : Alive n S i) (hj : Alive n S j) (h : wd (i : Nat) (S i).gen = wd (j : Nat) (S j).gen) : i = j := by
  obtain ⟨a1, a2, _, a3, a4⟩ := hi
  obtain ⟨b1, b2, _, b3, b4⟩ := hj
  have h1 := wd_index (x := (i : Int)) (t := (S i).gen) (by omega) (by omega)
  have h2 := wd_index (x := (j : Int)) (t := (S j).gen) (by omega) (by omega)
  rw [h, h2] at h1
  omega

theorem hnds_nodup {n : Nat} {S : Nat → Sl} (hn : n ≤ 4096) : ∀ {is : List Nat}, is.Nodup → (∀ i, i ∈ is → Alive n S i) → (hnds S is).Nodup
  | [], _, _ => List.nodup_nil
  | i :: is, hd, ha => by
    obtain ⟨h1, h2⟩ := List.nodup_cons.1 hd
    show (wd (i : Nat) (S i).gen :: hnds S is).Nodup
    refine List.nodup_cons.2 ⟨fun hm => ?_, hnds_nodup hn h2 (fun j hj => ha j (by simp [hj]))⟩
    obtain ⟨j, hj, he⟩ := List.mem_map.1 hm
    have := wd_inj hn (ha j (by simp [hj])) (ha i (by simp)) he
    subst this
    exact h1 hj

theorem hnds_rng {n : Nat} {S : Nat → Sl} (hn : n ≤ 4096) {is : List Nat} (ha : ∀ i, i ∈ is → Alive n S i) : ∀ h, h ∈ hnds S is → 0 < h ∧ h ≤ 1152921504606846975 := by
  intro h hm
  obtain ⟨i, hi, rfl⟩ := List.mem_map.1 hm
  obtain ⟨a1, a2, _, a3, a4⟩ := ha i hi
  have := wd_range (x := (i : Int)) (t := (S i).gen) (by omega) (by omega) (by omega) (by omega)
  unfold wd at *
  omega

theorem hnds_same {S S' : Nat → Sl} {is : List Nat} (h : ∀ i, i ∈ is → S' i = S i) : hnds S' is = hnds S is :=
  List.map_congr_left fun i hi => by rw [h i hi]

theorem mds_hnds2 {S S' : Nat → Sl} {is : List Nat} (h : ∀ i, i ∈ is → (S' i).gen = (S i).gen + 1) : mds S is = hnds S' is :=
  List.map_congr_left fun i hi => by rw [h i hi]

/-- What a change leaves: a new version with its slots told, or none. -/
def StepX (A : PA) (n tb base i : Nat) (S0 : Nat → Sl) (vs : List Ve) (V0 : Ve) (av : Value) (w : World) (e : Ending) (w' : World) : Prop :=
  ∃ (S : Nat → Sl) (t : Int) (fs : List Nat) (c : Int) (e0 e1 : Int) (e2 : Bool) (ga ma : Option Addr) (gl gc ml mc : Nat) (po : Option Addr), e = .returned (.tuple #[.pointer po, .agg #[.int .i64 e0, .int .i64 e1, .bool e2, .slice ga gl gc, .slice ma ml mc], .bool true]) ∧
    Vs A n tb base (i + 1) S t fs c vs av w' ∧ Only A.all w w' ∧ (∀ U, U ∈ vs → rootOf S U.ox = rootOf S0 U.ox) ∧
    (po = none ∨ ∃ V vb gs mk rest, po = some ⟨vb, 0, none⟩ ∧ VeOk n S base (i + 1) w' V ∧ w.heap.size ≤ V.g ∧ w.heap.size ≤ vb ∧ Blk w' vb #[.int .i64 (rootOf S V.ox), .slice V.ao (prs V.ox).length V.cap] 33 ∧
      gl = gs.length ∧ ml = mk.length ∧ w'.ownsRow w.heap.size 3 1 (.slice ga gl gc) gl ((hnds S gs).map (Value.int .i64)) ∧ w'.ownsRow w.heap.size 3 1 (.slice ma ml mc) ml ((hnds S mk).map (Value.int .i64)) ∧
      (slotsO V0.ox).Perm (gs ++ rest) ∧ (slotsO V.ox).Perm (mk ++ rest) ∧ ((slotsO V0.ox).Nodup → (slotsO V.ox).Nodup) ∧ ml ≤ gl + 2 ∧ ml ≤ 34)

theorem step_changed_x {A : PA} {n tb base i : Nat} {S : Nat → Sl} {t c : Int} {fs : List Nat} {vs : List Ve} {av : Value} {w : World} {V : Ve} {ch : Chg} (h : Vs A n tb base i S t fs c vs av w) (hn : n ≤ 4096) (hi : i ≤ 119) (hV : V ∈ vs) (hb : base ≤ w.heap.size) :
    Calls Try.prog 10 #[.pointer (some ⟨A.p, 0, none⟩), .pointer (some ⟨tb, 0, none⟩), .agg #[.int .i64 (rootOf S V.ox), .slice V.ao (prs V.ox).length V.cap], .agg #[.int .i64 ch.of, .int .i64 ch.k, .int .i64 ch.v, .bool ch.d]] w (StepX A n tb base i S vs V av w) := by
  have hO := h.each V hV
  have hfl := h.len
  have hc := h.cle
  have ht := h.tle
  have hl := hO.len
  refine (changed_any (c := ch) h.tr h.fre (by omega) (by omega) hO.rep hO.row (fun hm => by have := h.low.1 _ hm; have := hO.off; omega) (by omega)).mono ?_
  rintro e w' (⟨old, had, hOk⟩ | hNo | hE)
  · obtain ⟨oy, S', t', m, gs, rest, gv, mv, vb, g, ao, cap, rfl, hR, hP, hM, hT, hgv, hmv, hp1, hp2, hm2, hm34, hB, hvb, hRow, hg, hg2, hX⟩ := hOk
    have htag := hM.tag
    have hlen := chgL_length (prs V.ox) ch
    obtain ⟨ga, gc, rfl⟩ := own_slice_any hgv
    obtain ⟨ma, mc, rfl⟩ := own_slice_any hmv
    have hoff := rep_off h.fre hO.rep
    have hml : m = (fs.take m).length := by have := hM.le; simp; omega
    have hgsS : hnds S' gs = hnds S gs := hnds_same fun j hj => hM.old j fun hm => hoff j (hp1.mem_iff.2 (by simp [hj])) (List.mem_of_mem_take hm)
    have hmkS : mds S (fs.take m) = hnds S' (fs.take m) := mds_hnds2 fun j hj => hM.gen j hj
    refine ⟨S', t', fs.drop m, c + 1, _, _, _, _, _, _, _, _, _, _, rfl, h.move hT (hM.fre h.fre) (fun i hi => hM.old i (fun hm => hi (List.mem_of_mem_take hm))) hX h.low.1 (by omega) (by omega), hX, fun U hU => ((h.each U hU).rep.move h.fre (fun i hi => hM.old i (fun hm => hi (List.mem_of_mem_take hm)))).2, Or.inr ⟨⟨oy, g, ao, cap⟩, vb, gs, fs.take m, rest, rfl, ⟨hR, by rw [hP]; exact hRow, by show base ≤ g; omega, by show (prs oy).length ≤ i + 1; rw [hP]; omega, fun hne => hg2 (by rw [← hP]; exact hne)⟩, hg, hvb, by rw [hP]; exact hB, rfl, hml, by rw [hgsS]; exact hgv, by rw [← hmkS]; exact hmv, hp1, hp2, fun hd => ?_, hm2, hm34⟩⟩
    refine hp2.nodup_iff.2 (List.nodup_append.2 ⟨h.fre.nodup.sublist (List.take_sublist _ _), ?_, fun a ha b hb e => ?_⟩)
    · exact (List.nodup_append.1 (hp1.nodup_iff.1 hd)).2.1
    · subst e
      exact hoff a (hp1.mem_iff.2 (by simp [hb])) (List.mem_of_mem_take ha)
  · obtain ⟨rfl, S', t', hT, hU, ht', hX⟩ := hNo
    exact ⟨S', t', fs, c + 2, 0, 0, false, none, none, 0, 0, 0, 0, none, rfl, h.move hT (hU.fre h.fre) hU.old hX h.low.1 (by omega) (by omega), hX, fun U hU2 => ((h.each U hU2).rep.move h.fre hU.old).2, Or.inl rfl⟩
  · obtain ⟨rfl, hX⟩ := hE
    exact ⟨S, t, fs, c, 0, 0, false, none, none, 0, 0, 0, 0, none, rfl, h.move (h.tr.plain hX) h.fre (fun _ _ => rfl) hX (by simp) (by omega) (by omega), hX.mono (by simp), fun _ _ => rfl, Or.inl rfl⟩

end Go.Proofs.Ytacegkjobfeiiaa

namespace Go.Proofs.Ytacegkjobfeiiaa
open Go.RowKit

theorem hnds_append (S : Nat → Sl) (a b : List Nat) : hnds S (a ++ b) = hnds S a ++ hnds S b := List.map_append

/-- shares, of a version and the next one. -/
theorem law_shares {A : PA} {n : Nat} {S : Nat → Sl} {t : Int} {fs : List Nat} {fa ed0 ed1 : Int} {ed2 : Bool} {tb gg gm cg cm : Nat} {ag am : Option Addr} {ox oy : Option Tr} {gs mk rest : List Nat} {w : World} (T : TrAt w tb A n S t fs fa) (hn : n ≤ 4096) (Rx : RepO n S ox) (Ry : RepO n S oy) (dx : (slotsO ox).Nodup) (dy : (slotsO oy).Nodup)
    (p1 : (slotsO ox).Perm (gs ++ rest)) (p2 : (slotsO oy).Perm (mk ++ rest)) (hG : IntRow w ag gg cg (hnds S gs)) (hM : IntRow w am gm cm (hnds S mk)) :
    Calls Try.prog 17 #[.pointer (some ⟨tb, 0, none⟩), .int .i64 (rootOf S ox), .int .i64 (rootOf S oy), .agg #[.int .i64 ed0, .int .i64 ed1, .bool ed2, .slice ag gs.length cg, .slice am mk.length cm]] w fun e w' => e = .returned (.bool true) ∧ Only [] w w' := by
  have hlx := slots_len Rx dx
  have hly := slots_len Ry dy
  have h := shares_core (tv := .pointer (some ⟨tb, 0, none⟩)) (ia := rootOf S ox) (ib := rootOf S oy) (ed0 := ed0) (ed1 := ed1) (ed2 := ed2) (X := hndO S ox) (Y := hndO S oy) (R := hnds S rest)
    (fun W o => by have := trie_nodes (T.plain o) Rx (by omega); unfold hndO at *; rw [hnds_length]; exact this) (fun W o => by have := trie_nodes (T.plain o) Ry (by omega); unfold hndO at *; rw [hnds_length]; exact this) hG hM
    (by unfold hndO; rw [← hnds_append]; exact p1.map _) (by unfold hndO; rw [← hnds_append]; exact p2.map _) (hnds_nodup hn dx (rep_rng Rx)) (hnds_nodup hn dy (rep_rng Ry))
    (by unfold hndO; rw [hnds_length]; omega) (by unfold hndO; rw [hnds_length]; omega) (hnds_rng hn (rep_rng Rx)) (hnds_rng hn (rep_rng Ry))
  rw [hnds_length, hnds_length] at h
  exact h

end Go.Proofs.Ytacegkjobfeiiaa

namespace Go.Proofs.Ytacegkjobfeiiaa
open Go.RowKit

theorem tell_val {l : List KV} (h : Tr.rising l) {i : Nat} {x : KV} (hx : l[i]? = some x) : valL l x.1 = (x.2, true) := by
  rw [valL_val h, rising_val h hx]

theorem prs_key {n : Nat} {S : Nat → Sl} {ox : Option Tr} (h : RepO n S ox) : ∀ x, x ∈ prs ox → 0 ≤ x.1 ∧ x.1 ≤ 4294967295 := by
  cases ox with
  | none => intro x hx; simp [prs] at hx
  | some y => intro x hx; have := Tr.wf_keys h.2 x hx; have := Tr.wf_span h.2; omega

section
variable {A : PA} {n : Nat} {S : Nat → Sl} {t : Int} {fs : List Nat} {fa : Int} {tb i : Nat} {ox : Option Tr} {x : KV} {w : World}

theorem tell_find (T : TrAt w tb A n S t fs fa) (R : RepO n S ox) (hx : (prs ox)[i]? = some x) :
    Calls Try.prog 39 #[.pointer (some ⟨tb, 0, none⟩), .pointer none, .int .i64 (rootOf S ox), .int .i64 x.1] w fun e w' => e = .returned (.tuple #[.int .i64 x.2, .bool true, .int .i64 0]) ∧ Only [] w w' := by
  have h := trie_find (k := x.1) T R (prs_key R x (List.mem_of_getElem? hx))
  rw [tell_val (prs_rising R) hx] at h
  exact h

theorem tell_rank (T : TrAt w tb A n S t fs fa) (R : RepO n S ox) (hx : (prs ox)[i]? = some x) :
    Calls Try.prog 27 #[.pointer (some ⟨tb, 0, none⟩), .pointer none, .int .i64 (rootOf S ox), .int .i64 x.1] w fun e w' => e = .returned (.tuple #[.int .i64 (i : Nat), .int .i64 0]) ∧ Only [] w w' := by
  have hr := prs_rising R
  have hk := prs_key R x (List.mem_of_getElem? hx)
  cases ox with
  | none => simp [prs] at hx
  | some y =>
    have h := rank_some (k := x.1) T R.1 R.2 hk
    rw [rank_eq (down_way y x.1) R.2 (down_on y x.1) (down_ends y x.1), show y.pairs = prs (some y) from rfl, rising_rank hr hx] at h
    exact h

theorem tell_select (T : TrAt w tb A n S t fs fa) (R : RepO n S ox) (hx : (prs ox)[i]? = some x) :
    Calls Try.prog 28 #[.pointer (some ⟨tb, 0, none⟩), .pointer none, .int .i64 (rootOf S ox), .int .i64 (i : Nat)] w fun e w' => e = .returned (.tuple #[.agg #[.int .i64 x.1, .int .i64 x.2], .int .i64 0]) ∧ Only [] w w' := by
  cases ox with
  | none => simp [prs] at hx
  | some y =>
    have hi := (List.getElem?_eq_some_iff.1 hx).1
    rw [show prs (some y) = y.pairs from rfl, Tr.cnt_pairs] at hi
    have h := select_some T R.1 R.2 hi
    have h2 := sel_pairs y i hi
    rw [show prs (some y) = y.pairs from rfl, h2] at hx
    rw [Option.some.inj hx] at h
    exact h

theorem tell_next (T : TrAt w tb A n S t fs fa) (R : RepO n S ox) (hx : (prs ox)[i]? = some x) :
    Calls Try.prog 29 #[.pointer (some ⟨tb, 0, none⟩), .pointer none, .int .i64 (rootOf S ox), .int .i64 x.1] w (NextPost (prs ox)[i + 1]? w) := by
  have hr := prs_rising R
  have hk := prs_key R x (List.mem_of_getElem? hx)
  by_cases hm : x.1 = 4294967295
  · have hnone : (prs ox)[i + 1]? = none := by
      rcases h : (prs ox)[i + 1]? with _ | y
      · rfl
      · have h1 := rising_lt hr hx h (by omega)
        have h2 := prs_key R y (List.mem_of_getElem? h)
        omega
    rw [hnone, hm]
    exact next_last
  · cases ox with
    | none => simp [prs] at hx
    | some y =>
      have h := next_some (k := x.1) T R.1 R.2 (by omega)
      rw [next_eq (down_way y (x.1 + 1)) R.2 (down_on y (x.1 + 1)) (down_ends y (x.1 + 1))] at h
      rw [show y.pairs = prs (some y) from rfl, rising_next hr hx] at h
      exact h

end

end Go.Proofs.Ytacegkjobfeiiaa

namespace Go.Proofs.Ytacegkjobfeiiaa
open Go.RowKit

theorem win_all {n : Nat} {S : Nat → Sl} {ox : Option Tr} (h : RepO n S ox) : win 0 4294967295 (prs ox) = prs ox := by
  unfold win
  refine filter_all fun x hx => ?_
  have := prs_key h x hx
  simpa using this

theorem win_snoc {lo hi : Int} {l : List KV} {i : Nat} {x : KV} (h : l[i]? = some x) : win lo hi (l.take (i + 1)) = win lo hi (l.take i) ++ (if lo ≤ x.1 ∧ x.1 ≤ hi then [x] else []) := by
  obtain ⟨hl, rfl⟩ := List.getElem?_eq_some_iff.1 h
  rw [List.take_succ_eq_append_getElem hl, win_append]
  congr 1
  unfold win
  split <;> simp_all

theorem slots_prs (ox : Option Tr) : max 0 (2 * ((prs ox).length : Int) - 1) = ((slotsO ox).length : Nat) := by
  cases ox with
  | none => rfl
  | some x =>
    have h1 := Tr.cnt_slots x
    have h2 := Tr.cnt_pairs x
    have h3 := Tr.cnt_pos x
    show max 0 (2 * (x.pairs.length : Int) - 1) = (x.slots.length : Nat)
    omega

theorem cnt_prs2 (ox : Option Tr) : cntO ox = (prs ox).length := by
  cases ox with
  | none => rfl
  | some x => exact (Tr.cnt_pairs x).symm

/-- What Next tells of a pair, in one word. -/
theorem tell_next_any {A : PA} {n : Nat} {S : Nat → Sl} {t : Int} {fs : List Nat} {fa : Int} {tb i : Nat} {ox : Option Tr} {x : KV} {w : World} (T : TrAt w tb A n S t fs fa) (R : RepO n S ox) (hx : (prs ox)[i]? = some x) :
    Calls Try.prog 29 #[.pointer (some ⟨tb, 0, none⟩), .pointer none, .int .i64 (rootOf S ox), .int .i64 x.1] w fun e w' => ∃ qk qv he : Int, e = .returned (.tuple #[.agg #[.int .i64 qk, .int .i64 qv], .int .i64 he]) ∧ (((prs ox)[i + 1]? = some (qk, qv) ∧ he = 0) ∨ ((prs ox)[i + 1]? = none ∧ he = 122)) ∧ Only [] w w' := by
  refine (tell_next T R hx).mono ?_
  rintro e w' ⟨h1, h2⟩
  rcases ho : (prs ox)[i + 1]? with _ | y
  · rw [ho] at h1
    exact ⟨0, 0, 122, h1, Or.inr ⟨rfl, rfl⟩, h2⟩
  · rw [ho] at h1
    exact ⟨y.1, y.2, 0, h1, Or.inl ⟨rfl, rfl⟩, h2⟩

theorem set_two (W : World) (b : Nat) (x0 x1 : Value) : Only [b] W ((W.setCell ⟨b, 0, none⟩ x0).setCell ⟨b, 1, none⟩ x1) := (Only.setCell W (by simp) x0).trans (Only.setCell _ (by simp) x1)

end Go.Proofs.Ytacegkjobfeiiaa

