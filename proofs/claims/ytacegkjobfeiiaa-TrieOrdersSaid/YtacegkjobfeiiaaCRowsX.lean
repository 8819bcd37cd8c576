/- Rows of pairs in memory; append of a cut; the statement's where and value as calls. Conditions: the row stands in memory as RowP says. · The statement's without and with as calls. Conditions: the row stands in memory as RowP says. · The statement's with as a call. Conditions: the row stands in memory as RowP says. · Two equal rows of pairs, laid beside one another: skeinruns.Pairs as a call. Conditions: both stand in memory as RowP says. -/
import Derived.Maps.AppendAt
import Derived.Test.YtacegkjobfeiiaaCTrieQ
import Derived.Test.YtacegkjobfeiiaaCAskX
set_option linter.unusedVariables false
set_option linter.unusedSimpArgs false
set_option linter.unusedSectionVars false
set_option linter.unnecessarySimpa false
namespace Go.Proofs.Ytacegkjobfeiiaa
open Go.RowKit

def prC (x : KV) : List Value := [.int .i64 x.1, .int .i64 x.2]
def prsC (l : List KV) : List Value := l.flatMap prC

theorem prsC_cons (x : KV) (l : List KV) : prsC (x :: l) = .int .i64 x.1 :: .int .i64 x.2 :: prsC l := rfl
theorem prsC_append (a b : List KV) : prsC (a ++ b) = prsC a ++ prsC b := by simp [prsC]
theorem prsC_length : ∀ l : List KV, (prsC l).length = l.length * 2
  | [] => rfl
  | x :: l => by rw [prsC_cons]; simp [prsC_length l]; omega

theorem prsC_at : ∀ {l : List KV} {i : Nat} {x : KV}, l[i]? = some x → (prsC l)[i * 2]? = some (.int .i64 x.1) ∧ (prsC l)[i * 2 + 1]? = some (.int .i64 x.2)
  | a :: l, 0, x, h => by simp at h; subst h; exact ⟨rfl, rfl⟩
  | a :: l, i + 1, x, h => by
    have := prsC_at (l := l) (i := i) (x := x) (by simpa using h)
    rw [prsC_cons, show (i + 1) * 2 = i * 2 + 1 + 1 by omega]
    simpa using this

theorem prsC_drop : ∀ (l : List KV) (i : Nat), prsC (l.drop i) = (prsC l).drop (i * 2)
  | l, 0 => by simp
  | [], i + 1 => by simp [prsC]
  | a :: l, i + 1 => by
    rw [List.drop_succ_cons, prsC_drop l i, prsC_cons, show (i + 1) * 2 = i * 2 + 1 + 1 by omega]
    rfl

theorem prsC_take : ∀ (l : List KV) (i : Nat), prsC (l.take i) = (prsC l).take (i * 2)
  | l, 0 => by simp [prsC]
  | [], i + 1 => by simp [prsC]
  | a :: l, i + 1 => by
    rw [List.take_succ_cons, prsC_cons, prsC_take l i, prsC_cons, show (i + 1) * 2 = i * 2 + 1 + 1 by omega]
    rfl

theorem prsC_one (l : List KV) : ∀ u, u ∈ prsC l → u.oneCell' = true := by
  intro u hu
  simp only [prsC, List.mem_flatMap, prC] at hu
  obtain ⟨x, _, hx⟩ := hu
  simp at hx
  rcases hx with rfl | rfl <;> rfl

/-- A row of pairs in memory: its slice's address and room. -/
structure RowP (w : World) (g : Nat) (ao : Option Addr) (cap : Nat) (l : List KV) : Prop where
  ad : (ao = none ∧ cap = 0) ∨ ao = some ⟨g, 0, none⟩
  fits : l.length ≤ cap
  cells : ∀ j u, (prsC l)[j]? = some u → w.cell? ⟨g, j, none⟩ = some u

theorem keep_off {S : List Nat} {w w' : World} {b o : Nat} {v : Value} (h : Only S w w') (hb : b ∉ S) (hc : w.cell? ⟨b, o, none⟩ = some v) : w'.cell? ⟨b, o, none⟩ = some v := by
  have hl : b < w.heap.size := by
    rcases Nat.lt_or_ge b w.heap.size with hl | hl
    · exact hl
    · simp [World.cell?, Array.getElem?_eq_none hl] at hc
  exact (h.cell (p := ⟨b, o, none⟩) hl hb).trans hc

theorem RowP.only {S : List Nat} {w w' : World} {g : Nat} {ao : Option Addr} {cap : Nat} {l : List KV} (h : RowP w g ao cap l) (o : Only S w w') (hn : g ∉ S) : RowP w' g ao cap l :=
  ⟨h.ad, h.fits, fun j u hu => keep_off o hn (h.cells j u hu)⟩

theorem RowP.at {w : World} {g : Nat} {ao : Option Addr} {cap : Nat} {l : List KV} (h : RowP w g ao cap l) {i : Nat} {x : KV} (hx : l[i]? = some x) : ao = some ⟨g, 0, none⟩ ∧ w.cell? ⟨g, i * 2, none⟩ = some (.int .i64 x.1) ∧ w.cell? ⟨g, i * 2 + 1, none⟩ = some (.int .i64 x.2) := by
  have h1 := prsC_at hx
  have hi := (List.getElem?_eq_some_iff.1 hx).1
  refine ⟨?_, h.cells _ _ h1.1, h.cells _ _ h1.2⟩
  rcases h.ad with ⟨_, h2⟩ | h2
  · have := h.fits; omega
  · exact h2

theorem rowp_own {w : World} {base n : Nat} {v : Value} {l : List KV} (h : w.ownsRow base 56 2 v n (prsC l)) : ∃ g ao cap, v = .slice ao l.length cap ∧ RowP w g ao cap l ∧ base ≤ g ∧ (l ≠ [] → g < w.heap.size) ∧ n = l.length := by
  have hn : n = l.length := by have := h.1; rw [prsC_length] at this; omega
  rcases h.2 with ⟨rfl, h1⟩ | ⟨g, cap, cur, rfl, hg, hb, hnc, hm, hs, ht⟩
  · have : l = [] := List.eq_nil_of_length_eq_zero (by omega)
    subst this
    exact ⟨base, none, 0, rfl, ⟨Or.inl ⟨rfl, rfl⟩, Nat.le_refl _, fun j u hu => by simp [prsC] at hu⟩, Nat.le_refl _, fun h => absurd rfl h, hn⟩
  · refine ⟨g, _, cap, by rw [hn], ⟨Or.inr rfl, by omega, fun j u hu => ?_⟩, hg, fun _ => (Array.getElem?_eq_some_iff.1 hb).1, hn⟩
    have := h.cells (g := g) rfl j u hu
    rwa [Addr.add_lit, Nat.zero_add] at this

/-- The address of a cut. -/
theorem RowP.cut_none {w : World} {g : Nat} {ao : Option Addr} {cap : Nat} {l : List KV} (h : RowP w g ao cap l) {i : Nat} (e : (if cap = i then ao else ao.map (·.add (i * 2))) = none) : l = [] ∧ cap = 0 := by
  have hf := h.fits
  have h0 : ao = none := by split at e; exact e; simpa using e
  rcases h.ad with ⟨_, h2⟩ | h2
  · exact ⟨List.eq_nil_of_length_eq_zero (by omega), h2⟩
  · rw [h2] at h0; cases h0

theorem RowP.cut_from {w : World} {g : Nat} {ao : Option Addr} {cap : Nat} {l : List KV} (h : RowP w g ao cap l) {i : Nat} {ad : Addr} (e : (if cap = i then ao else ao.map (·.add (i * 2))) = some ad) : ∀ j u, (prsC (l.drop i))[j]? = some u → w.cell? (ad.add j) = some u := by
  intro j u hu
  have hf := h.fits
  rw [prsC_drop, List.getElem?_drop] at hu
  split at e
  · rename_i hc
    have := (List.getElem?_eq_some_iff.1 hu).1
    rw [prsC_length] at this
    omega
  · rcases h.ad with ⟨h1, _⟩ | h1
    · rw [h1] at e; simp at e
    · rw [h1] at e
      simp only [Option.map_some, Option.some.injEq] at e
      subst e
      have := h.cells _ _ hu
      rw [Addr.add_lit, Addr.add_lit, Nat.zero_add]
      exact this

theorem RowP.cut_to {w : World} {g : Nat} {ao : Option Addr} {cap : Nat} {l : List KV} (h : RowP w g ao cap l) {i : Nat} {ad : Addr} (e : ao = some ad) : ∀ j u, (prsC (l.take i))[j]? = some u → w.cell? (ad.add j) = some u := by
  intro j u hu
  rw [prsC_take, List.getElem?_take] at hu
  split at hu
  · rcases h.ad with ⟨h1, _⟩ | h1
    · rw [h1] at e; cases e
    · rw [h1] at e
      cases e
      have := h.cells _ _ hu
      rw [Addr.add_lit, Nat.zero_add]
      exact this
  · cases hu

/-- append to a row of the call's own, whatever the source's address. -/
theorem wpList_append_any {P : Program} {w : World} {ops : Array Oper} {rest : List Oper} {o : Oper} {a : Act} {Q : Exit → Act → World → Prop} (hgd : o.guard = none) (s x : Operand) (t : TypeId)
    (ho : o.op = .call { callee := .builtin .append, args := #[s, x], argTypes := #[t, t] })
    (base : Nat) (e : TypeId) (i : TypeInfo) (z : Value) (size bytes : Nat) (ht : P.underlying t = some (.slice e)) (hi : P.info? e = some i) (hz : i.zero = some z)
    (hsize : i.size = size) (hby : i.bytes = bytes) (hzs : z.cells.size = size) (hsz : 0 < size)
    (v : Value) (n : Nat) (xs : List Value) (hs : a.eval s = v) (hown : w.ownsRow base e size v n xs)
    (ao : Option Addr) (m c : Nat) (news : List Value) (hx : a.eval x = .slice ao m c) (hl : news.length = m * size) (hnone : ao = none → m = 0 ∧ c = 0) (hnews : ∀ ad, ao = some ad → ∀ j u, news[j]? = some u → w.cell? (ad.add j) = some u) (h1 : ∀ u ∈ news, u.oneCell' = true)
    (h63 : n + m ≤ maxLen) (hbytes : (n + m) * bytes ≤ 140737488355328) (hbase : base ≤ w.heap.size)
    (h : ∀ v' w', w'.ownsRow base e size v' (n + m) (xs ++ news) → Only v.ownBlock.toList w w' → (∀ b, v'.ownBlock = some b → v.ownBlock = some b ∨ w.heap.size ≤ b) → wpList P ops Q rest (a.put o.dst v') w') :
    wpList P ops Q (o :: rest) a w := by
  cases ao with
  | some ad =>
    refine wpList_append_own_at w hgd s x t ho base e i z size bytes ht hi hz hsize hby hzs hsz v n xs hs hown ad m c news hx hl (hnews ad rfl) h1 h63 hbytes hbase ?_
    intro v' w' h2 h3 _ h5
    refine h v' w' h2 (Only.of_grown h3 (by intro k hk; simp [hk])) (fun b hb => ?_)
    rcases h5 with h5 | h5
    · exact Or.inl (by rw [← h5]; exact hb)
    · right; rw [h5] at hb; simp at hb; omega
  | none =>
    obtain ⟨rfl, rfl⟩ := hnone rfl
    have hn : news = [] := List.eq_nil_of_length_eq_zero (by simpa using hl)
    subst hn
    refine wpList_plain hgd fun K hK => ?_
    have hrun := run_append_owned_none (P := P) (w := w) base t o.type e i size ht hi v n xs hown
    unfold Oper.wp
    simp [execOp, ho, resolve, invoke, builtin, hs, hx, hrun, Result.andThen]
    exact hK _ _ (h v w (by simpa using hown) (Only.refl _ _) (fun b hb => Or.inl hb))

set_option maxRecDepth 100000 in
set_option maxHeartbeats 4000000 in
theorem law_where {w : World} {g : Nat} {ao : Option Addr} {cap : Nat} {l : List KV} {k : Int} (h : RowP w g ao cap l) (hl : l.length ≤ 1000000) :
    Calls Try.prog 34 #[.slice ao l.length cap, .int .i64 k] w fun e w' => e = .returned (.tuple #[.int .i64 (whr l k : Nat), .bool (isAt l k)]) ∧ Only [] w w' := by
  have H := Lib.hid h
  have hc := h.fits
  clear h
  obtain ⟨n, hn⟩ : ∃ n, l.length = n := ⟨_, rfl⟩
  rw [hn] at hc hl ⊢
  have HN := Lib.hid hn
  clear hn
  go_enter Try.func34, Try.ntmps34
  go_wp2_with fail
  go_loopg [6] n (fun gk s6 wr => ∃ i : Nat, i + gk = n ∧ i ≤ whr l k ∧ s6 = .int .i64 i ∧ wr = w)
  case atStart => exact ⟨0, by omega, by omega, rfl, rfl⟩
  case round =>
    obtain ⟨i, hi, hiw, rfl, rfl⟩ := hrel
    have HI := Lib.hid hi
    have HIW := Lib.hid hiw
    clear hiw
    by_cases hlt : i < n
    · obtain ⟨x, hx⟩ : ∃ x, l[i]? = some x := ⟨_, List.getElem?_eq_getElem (by have := HN.out; omega)⟩
      have hst := whr_step l k i x HIW.out hx
      obtain ⟨rfl, c0, _⟩ := H.out.at hx
      have HX := Lib.hid hx
      have hii : (i : Int) < n := by omega
      clear hx
      obtain ⟨xk, hxk⟩ : ∃ xk, x.1 = xk := ⟨_, rfl⟩
      rw [hxk] at hst c0
      have HXK := Lib.hid hxk
      clear hxk
      by_cases hk : xk < k
      · have hw : i + 1 ≤ whr l k := by omega
        have HW := Lib.hid hw
        clear hw hst hi
        go_wp2_with fail
        go_roundg (gk - 1)
        case measure => have := HI.out; omega
        case rel => exact ⟨i + 1, by have := HI.out; omega, HW.out, by go_num, rfl⟩
      · have hw : whr l k = i := by have := HIW.out; omega
        have HW := Lib.hid hw
        have hdd : decide (xk < k) = false := by simpa using hk
        have his : isAt l k = (xk == k) := by rw [isAt_get, hw, HX.out]; simp [HXK.out]
        have HIS := Lib.hid his
        obtain ⟨bq, hbq⟩ : ∃ bq, (xk == k) = bq := ⟨_, rfl⟩
        have HBQ := Lib.hid hbq
        clear hw hst his hi hk
        go_wp2_with fail
        go_quiet (fail)
        go_wp2_with fail
        go_ret2
        exact ⟨by rw [HW.out, HIS.out, HBQ.out]; rfl, Only.drewN _ _ _⟩
    · have hin : i = n := by omega
      subst hin
      have hw : whr l k = i := by have := whr_le l k; have := HIW.out; have := HN.out; omega
      have HW := Lib.hid hw
      have his : isAt l k = false := by rw [isAt_get, hw, List.getElem?_eq_none (by have := HN.out; omega)]
      have HIS := Lib.hid his
      clear hw his hi hlt
      go_wp2_with fail
      go_quiet (fail)
      go_wp2_with fail
      go_ret2
      exact ⟨by rw [HW.out, HIS.out]; rfl, Only.drewN _ _ _⟩

set_option maxRecDepth 100000 in
set_option maxHeartbeats 4000000 in
theorem law_value {w : World} {g : Nat} {ao : Option Addr} {cap : Nat} {l : List KV} {k : Int} (h : RowP w g ao cap l) (hl : l.length ≤ 1000000) :
    Calls Try.prog 13 #[.slice ao l.length cap, .int .i64 k] w fun e w' => e = .returned (.tuple #[.int .i64 (valL l k).1, .bool (valL l k).2]) ∧ Only [] w w' := by
  have HW := Lib.hid (law_where (k := k) h hl)
  have H := Lib.hid h
  have hc := h.fits
  have hva : (valL l k).2 = isAt l k := valL_has l k
  clear h
  cases his : isAt l k with
  | false =>
    have hv : valL l k = (0, false) := by
      rw [his] at hva
      unfold valL at hva ⊢
      cases hq : l[whr l k]? with
      | none => rfl
      | some x => rw [hq] at hva; by_cases e : x.1 = k <;> simp [e] at hva ⊢
    rw [hv]
    rw [his] at HW
    clear hva hv his
    generalize l.length = n at *
    generalize ((whr l k : Nat) : Int) = q at *
    go_enter Try.func13, Try.ntmps13
    go_wp2_with fail
    refine HW.out.mono ?_
    rintro e w1 ⟨rfl, hX⟩
    have HX := Lib.hid hX
    clear hX
    go_wp2_with fail
    go_ret2
    exact ⟨rfl, HX.out⟩
  | true =>
    have hlt := isAt_lt l k his
    obtain ⟨x, hx⟩ : ∃ x, l[whr l k]? = some x := ⟨_, List.getElem?_eq_getElem (by omega)⟩
    have hxk : x.1 = k := by
      rw [isAt_get, hx] at his
      simpa using his
    have hv : valL l k = (x.2, true) := by unfold valL; rw [hx]; simp [hxk]
    rw [hv]
    rw [his] at HW
    obtain ⟨rfl, _, c1⟩ := H.out.at hx
    have HC := Lib.hid (fun w' (o : Only [] w w') => keep_cell o c1)
    clear hva hv his hx c1
    obtain ⟨n, hn⟩ : ∃ n, l.length = n := ⟨_, rfl⟩
    obtain ⟨q, hq⟩ : ∃ q, whr l k = q := ⟨_, rfl⟩
    rw [hn] at HW hlt hl hc ⊢
    rw [hq] at HW HC hlt
    obtain ⟨xv, hxv⟩ : ∃ xv, x.2 = xv := ⟨_, rfl⟩
    rw [hxv] at HC ⊢
    clear hn hq hxv H
    have hqi : (q : Int) < n := by omega
    go_enter Try.func13, Try.ntmps13
    go_wp2_with fail
    refine HW.out.mono ?_
    rintro e w1 ⟨rfl, hX⟩
    have c1 := HC.out _ hX
    have HX := Lib.hid hX
    clear hX
    go_wp2_with fail
    go_ret2
    exact ⟨rfl, HX.out⟩

end Go.Proofs.Ytacegkjobfeiiaa

namespace Go.Proofs.Ytacegkjobfeiiaa
open Go.RowKit

theorem info_pair : (Try.prog.info? 56).map (fun i => (i.zero, i.size, i.bytes)) = some (some (.agg #[.int .i64 0, .int .i64 0]), 2, 16) := by kernel_rfl

theorem RowP.nil_cap {w : World} {g : Nat} {ao : Option Addr} {cap n q : Nat} {l : List KV} (h : RowP w g ao cap l) (hn : l.length = n) (hq : q ≤ n) (e : ao = none) : q = 0 ∧ cap = 0 := by
  have := h.fits
  rcases h.ad with ⟨_, h2⟩ | h2
  · exact ⟨by omega, h2⟩
  · rw [h2] at e; cases e

theorem RowP.nil_cut {w : World} {g : Nat} {ao : Option Addr} {cap n i : Nat} {l : List KV} (h : RowP w g ao cap l) (hn : l.length = n) (e : (if cap = i then ao else ao.map (·.add (i * 2))) = none) : n - i = 0 ∧ cap - i = 0 := by
  obtain ⟨rfl, h2⟩ := h.cut_none e
  simp at hn
  omega

/-- A new row of pairs is handed back. -/
def NewRow (l : List KV) (w : World) (e : Ending) (w' : World) : Prop := ∃ v', e = .returned v' ∧ w'.ownsRow w.heap.size 56 2 v' l.length (prsC l) ∧ Only [] w w'

set_option maxRecDepth 100000 in
set_option maxHeartbeats 4000000 in
theorem law_without {w : World} {g : Nat} {ao : Option Addr} {cap : Nat} {l : List KV} {k : Int} (h : RowP w g ao cap l) (hl : l.length ≤ 100000) :
    Calls Try.prog 14 #[.slice ao l.length cap, .int .i64 k] w (NewRow (lessL l k) w) := by
  have HW := Lib.hid (law_where (k := k) h (by omega))
  have H := Lib.hid h
  have hc := h.fits
  obtain ⟨i0, hi0, hz0, hz1, hz2⟩ := info_parts info_pair
  have hq := whr_le l k
  have hq2 : whr l k + (if isAt l k then 1 else 0) ≤ l.length := by
    cases his : isAt l k with
    | false => simpa using hq
    | true => simpa using isAt_lt l k his
  have HL : Hid (lessL l k = l.take (whr l k) ++ l.drop (whr l k + (if isAt l k then 1 else 0))) := Lib.hid rfl
  obtain ⟨n, hn⟩ : ∃ n, l.length = n := ⟨_, rfl⟩
  obtain ⟨q, hqq⟩ : ∃ q, whr l k = q := ⟨_, rfl⟩
  obtain ⟨b, hb⟩ : ∃ b, isAt l k = b := ⟨_, rfl⟩
  rw [hn, hqq, hb] at HW
  rw [hqq, hb] at HL
  rw [hn] at hq hq2 hc hl ⊢
  rw [hqq] at hq hq2
  rw [hb] at hq2
  have HN := Lib.hid hn
  clear h hn hqq hb
  obtain ⟨q2, hqe⟩ : ∃ q2, q + (if b then 1 else 0) = q2 := ⟨_, rfl⟩
  rw [hqe] at hq2 HL
  have HQE := Lib.hid hqe
  have hqi : (q : Int) ≤ cap := by omega
  have hq2i : (q2 : Int) ≤ n := by omega
  clear hqe
  go_enter Try.func14, Try.ntmps14
  go_wp2_with fail
  refine HW.out.mono ?_
  rintro e w1 ⟨rfl, hX1⟩
  have HX1 := Lib.hid hX1
  have H1 := Lib.hid (H.out.only hX1 (by simp))
  have hs1 := hX1.size
  clear hX1
  have hl1 : (prsC (l.take q)).length = q * 2 := by rw [prsC_length, List.length_take, HN.out]; omega
  have hl2 : (prsC (l.drop q2)).length = (n - q2) * 2 := by rw [prsC_length, List.length_drop, HN.out]
  go_upto_region 4 with (at_builtin; refine wpList_append_any (by rfl) (.tmp 14) (.tmp 17) 31 (by rfl) w.heap.size 56 i0 _ 2 16 Try.underlying31 hi0 hz0 hz1 hz2 rfl (by decide) _ 0 [] rfl (World.ownsRow_nil _ _ _ _) _ q cap (prsC (l.take q)) rfl hl1 (fun e => H1.out.nil_cap HN.out hq e) (fun ad e => H1.out.cut_to e) (prsC_one _) (by unfold maxLen; omega) (by omega) hs1 ?_)
  intro v2 w2 hown2 hX2 hat2
  obtain ⟨ad2, cap2, rfl⟩ := own_slice_any hown2
  have HO2 := Lib.hid hown2
  have hnil : (Value.slice none 0 0).ownBlock.toList = ([] : List Nat) := rfl
  rw [hnil] at hX2
  have HX2 := Lib.hid (HX1.out.trans hX2)
  have H2 := Lib.hid (H1.out.only hX2 (by simp))
  have hs2 : w.heap.size ≤ w2.heap.size := HX2.out.size
  have HAT : Hid (∀ b, (Value.slice ad2 q cap2).ownBlock = some b → w.heap.size ≤ b) := Lib.hid (fun b hb => (hown2.lt b hb).1)
  clear hown2 hX2 hat2 hnil H1 HX1 hs1
  go_upto_if 19 with fail
  go_cut [5] (fun s5 wc => s5 = .int .i64 (q2 : Nat) ∧ w2 = wc)
  case first =>
    have hqe := HQE.out
    cases b with
    | false =>
      go_wp2_with fail
      go_meet
      exact ⟨by simp at hqe; rw [hqe], rfl⟩
    | true =>
      go_wp2_with fail
      go_meet
      exact ⟨by simp at hqe; rw [← hqe]; go_num, rfl⟩
  case rest =>
  obtain ⟨rfl, rfl⟩ := hcut
  go_wp2_with (at_builtin; refine wpList_append_any (by rfl) (.tmp 22) (.tmp 25) 31 (by rfl) w.heap.size 56 i0 _ 2 16 Try.underlying31 hi0 hz0 hz1 hz2 rfl (by decide) _ q (prsC (l.take q)) rfl HO2.out _ (n - q2) (cap - q2) (prsC (l.drop q2)) rfl hl2 (fun e => H2.out.nil_cut HN.out e) (fun ad e => H2.out.cut_from e) (prsC_one _) (by unfold maxLen; omega) (by omega) hs2 ?_)
  all_goals (
    intro v3 w3 hown3 hX3 hat3
    have hX := HX2.out.past hX3 (fun i hi => Or.inr (HAT.out i (by simpa using hi)))
    obtain ⟨ad3, cap3, rfl⟩ := own_slice_any hown3
    have HO3 := Lib.hid hown3
    have HX3 := Lib.hid hX
    clear hown3 hX3 hat3 hX
    go_wp2_with fail
    go_ret
    refine ⟨_, rfl, ?_, HX3.out⟩
    have hfin := HO3.out
    rw [← prsC_append, ← HL.out] at hfin
    have hle : (lessL l k).length = q + (n - q2) := by
      have := hfin.1
      rw [prsC_length] at this
      omega
    rw [hle]
    exact hfin)

end Go.Proofs.Ytacegkjobfeiiaa

namespace Go.Proofs.Ytacegkjobfeiiaa
open Go.RowKit

theorem withL_length (l : List KV) (k v : Int) : (withL l k v).length ≤ l.length + 1 := by
  unfold withL
  have := whr_le l k
  simp only [List.length_append, List.length_take, List.length_cons, List.length_drop]
  omega

theorem cells_pair (w : World) (a b : Value) (T : TypeId) : ∀ j u, [a, b][j]? = some u → (w.alloc (.cells #[a, b] T)).cell? ((⟨w.heap.size, 0, none⟩ : Addr).add j) = some u := by
  intro j u hu
  rw [Addr.add_lit]
  have := (Blk.new w #[a, b] T).cell j (v := u) (by simpa using hu)
  simpa using this

set_option maxRecDepth 100000 in
set_option maxHeartbeats 4000000 in
theorem law_with {w : World} {g : Nat} {ao : Option Addr} {cap : Nat} {l : List KV} {k u : Int} (h : RowP w g ao cap l) (hl : l.length ≤ 100000) :
    Calls Try.prog 15 #[.slice ao l.length cap, .agg #[.int .i64 k, .int .i64 u]] w (NewRow (withL l k u) w) := by
  have HW := Lib.hid (fun W (o : Only [] w W) => law_where (k := k) (h.only o (by simp)) (by omega))
  have H := Lib.hid h
  have hc := h.fits
  obtain ⟨i0, hi0, hz0, hz1, hz2⟩ := info_parts info_pair
  have hq := whr_le l k
  have hq2 : whr l k + (if isAt l k then 1 else 0) ≤ l.length := by
    cases his : isAt l k with
    | false => simpa using hq
    | true => simpa using isAt_lt l k his
  have HL : Hid (withL l k u = l.take (whr l k) ++ (k, u) :: l.drop (whr l k + (if isAt l k then 1 else 0))) := Lib.hid rfl
  obtain ⟨n, hn⟩ : ∃ n, l.length = n := ⟨_, rfl⟩
  obtain ⟨q, hqq⟩ : ∃ q, whr l k = q := ⟨_, rfl⟩
  obtain ⟨b, hb⟩ : ∃ b, isAt l k = b := ⟨_, rfl⟩
  rw [hn, hqq, hb] at HW
  rw [hqq, hb] at HL
  rw [hn] at hq hq2 hc hl ⊢
  rw [hqq] at hq hq2
  rw [hb] at hq2
  have HN := Lib.hid hn
  clear h hn hqq hb
  obtain ⟨q2, hqe⟩ : ∃ q2, q + (if b then 1 else 0) = q2 := ⟨_, rfl⟩
  rw [hqe] at hq2 HL
  have HQE := Lib.hid hqe
  have hqi : (q : Int) ≤ cap := by omega
  have hq2i : (q2 : Int) ≤ n := by omega
  clear hqe
  go_enter Try.func15, Try.ntmps15
  go_wp2_with fail
  refine calls_name (fun w1 => Blk w1 w.heap.size #[.int .i64 k, .int .i64 u] 56 ∧ Only [] w w1) ⟨Blk.new _ _ _, Only.alloc _ _ _⟩ ?_
  obtain ⟨pb, hpb⟩ : ∃ pb, w.heap.size = pb := ⟨_, rfl⟩
  have HPB := Lib.hid hpb
  rw [hpb]
  clear hpb
  rintro w0 ⟨hB0, hX0⟩
  refine (HW.out _ hX0).mono ?_
  rintro e w1 ⟨rfl, hX1⟩
  have HX1 := Lib.hid (hX0.trans hX1)
  have hB1 := hB0.only hX1 (by simp)
  have HB1 := Lib.hid hB1
  have H1 := Lib.hid (H.out.only HX1.out (by simp))
  have hs1 : pb + 1 ≤ w1.heap.size := by have := hB1.lt; omega
  clear hX1 hX0 hB0 hB1
  have hl1 : (prsC (l.take q)).length = q * 2 := by rw [prsC_length, List.length_take, HN.out]; omega
  have hl2 : (prsC (l.drop q2)).length = (n - q2) * 2 := by rw [prsC_length, List.length_drop, HN.out]
  go_upto_region 4 with (at_builtin; refine wpList_append_any (by rfl) (.tmp 15) (.tmp 18) 31 (by rfl) (pb + 1) 56 i0 _ 2 16 Try.underlying31 hi0 hz0 hz1 hz2 rfl (by decide) _ 0 [] rfl (World.ownsRow_nil _ _ _ _) _ q cap (prsC (l.take q)) rfl hl1 (fun e => H1.out.nil_cap HN.out hq e) (fun ad e => H1.out.cut_to e) (prsC_one _) (by unfold maxLen; omega) (by omega) hs1 ?_)
  intro v2 w2 hown2 hX2 hat2
  obtain ⟨ad2, cap2, rfl⟩ := own_slice_any hown2
  have HO2 := Lib.hid hown2
  have hnil : (Value.slice none 0 0).ownBlock.toList = ([] : List Nat) := rfl
  rw [hnil] at hX2
  have HX2 := Lib.hid (HX1.out.trans hX2)
  have HB2 := Lib.hid (HB1.out.only hX2 (by simp))
  have hs2 : pb + 1 ≤ w2.heap.size := Nat.le_trans hs1 hX2.size
  have HAT : Hid (∀ b, (Value.slice ad2 q cap2).ownBlock = some b → pb + 1 ≤ b) := Lib.hid (fun b hb => (hown2.lt b hb).1)
  have p0 := HB2.out.cell 0 rfl
  have p1 := HB2.out.cell 1 rfl
  clear hown2 hX2 hat2 hnil H1 HX1 hs1 HB1
  go_upto_region 5 with (at_builtin; refine wpList_append_any (by rfl) (.tmp 20) (.tmp 22) 31 (by rfl) (pb + 1) 56 i0 _ 2 16 Try.underlying31 hi0 hz0 hz1 hz2 rfl (by decide) _ q (prsC (l.take q)) rfl (HO2.out.alloc _) (some ⟨w2.heap.size, 0, none⟩) 1 1 [.int .i64 k, .int .i64 u] rfl rfl (fun e => by cases e) (fun ad e => by cases e; exact cells_pair _ _ _ _) (fun u hu => by simp at hu; rcases hu with rfl | rfl <;> rfl) (by unfold maxLen; omega) (by omega) (by simp; omega) ?_)
  intro v3 w3 hown3 hX3 hat3
  have hX3' : Only [] w w3 := HX2.out.past ((Only.alloc (Value.slice ad2 q cap2).ownBlock.toList w2 _).trans hX3) (fun i hi => Or.inr (by have := HAT.out i (by simpa using hi); have := HPB.out; omega))
  obtain ⟨ad3, cap3, rfl⟩ := own_slice_any hown3
  have HO3 := Lib.hid hown3
  have HX3 := Lib.hid hX3'
  have H3 := Lib.hid (H.out.only hX3' (by simp))
  have hs3 : pb + 1 ≤ w3.heap.size := by have h1 := hX3.size; simp at h1; omega
  have HAT3 : Hid (∀ b, (Value.slice ad3 (q + 1) cap3).ownBlock = some b → pb + 1 ≤ b) := Lib.hid (fun b hb => (hown3.lt b hb).1)
  clear hown3 hX3 hX3' hat3 HX2 HO2 HAT p0 p1 hs2 HB2
  go_upto_if 24 with fail
  go_cut [5] (fun s5 wc => s5 = .int .i64 (q2 : Nat) ∧ w3 = wc)
  case first =>
    have hqe := HQE.out
    cases b with
    | false =>
      go_wp2_with fail
      go_meet
      exact ⟨by simp at hqe; rw [hqe], rfl⟩
    | true =>
      go_wp2_with fail
      go_meet
      exact ⟨by simp at hqe; rw [← hqe]; go_num, rfl⟩
  case rest =>
  obtain ⟨rfl, rfl⟩ := hcut
  go_wp2_with (at_builtin; refine wpList_append_any (by rfl) (.tmp 27) (.tmp 30) 31 (by rfl) (pb + 1) 56 i0 _ 2 16 Try.underlying31 hi0 hz0 hz1 hz2 rfl (by decide) _ (q + 1) _ rfl HO3.out _ (n - q2) (cap - q2) (prsC (l.drop q2)) rfl hl2 (fun e => H3.out.nil_cut HN.out e) (fun ad e => H3.out.cut_from e) (prsC_one _) (by unfold maxLen; omega) (by omega) hs3 ?_)
  all_goals (
    intro v4 w4 hown4 hX4 hat4
    have hX := HX3.out.past hX4 (fun i hi => Or.inr (by have := HAT3.out i (by simpa using hi); have := HPB.out; omega))
    obtain ⟨ad4, cap4, rfl⟩ := own_slice_any hown4
    have HO4 := Lib.hid hown4
    have HX4 := Lib.hid hX
    clear hown4 hX4 hat4 hX
    go_wp2_with fail
    go_ret
    refine ⟨_, rfl, ?_, HX4.out⟩
    have hfin := HO4.out
    rw [show (Value.int .i64 k :: Value.int .i64 u :: prsC (l.drop q2)) = prsC ((k, u) :: l.drop q2) from rfl, ← prsC_append, ← HL.out] at hfin
    have hle : (withL l k u).length = q + 1 + (n - q2) := by
      have := hfin.1
      rw [prsC_length] at this
      omega
    rw [hle, HPB.out]
    refine ⟨hfin.1, hfin.2.imp id ?_⟩
    rintro ⟨g, cap, cur, h1, h2, h3⟩
    exact ⟨g, cap, cur, h1, by omega, h3⟩)

end Go.Proofs.Ytacegkjobfeiiaa

namespace Go.Proofs.Ytacegkjobfeiiaa
open Go.RowKit

set_option maxRecDepth 100000 in
set_option maxHeartbeats 4000000 in
theorem runs_pairs {w : World} {g1 g2 : Nat} {ao1 ao2 : Option Addr} {cap1 cap2 : Nat} {l : List KV} (h1 : RowP w g1 ao1 cap1 l) (h2 : RowP w g2 ao2 cap2 l) (hl : l.length ≤ 1000000) :
    Calls Try.prog 16 #[.slice ao1 l.length cap1, .slice ao2 l.length cap2] w fun e w' => e = .returned (.bool true) ∧ Only [] w w' := by
  have H1 := Lib.hid h1
  have H2 := Lib.hid h2
  have hc1 := h1.fits
  have hc2 := h2.fits
  clear h1 h2
  obtain ⟨n, hn⟩ : ∃ n, l.length = n := ⟨_, rfl⟩
  rw [hn] at hl hc1 hc2 ⊢
  have HN := Lib.hid hn
  clear hn
  go_enter Try.func16, Try.ntmps16
  go_wp2_with fail
  go_loopg [5] n (fun gk s5 wr => ∃ i : Nat, i + gk = n ∧ s5 = .int .i64 i ∧ Only [] w wr)
  case atStart => exact ⟨0, by omega, rfl, Only.refl _ _⟩
  case round =>
    obtain ⟨i, hi, rfl, hO⟩ := hrel
    have HI := Lib.hid hi
    clear hi
    by_cases hlt : i < n
    · obtain ⟨x, hx⟩ : ∃ x, l[i]? = some x := ⟨_, List.getElem?_eq_getElem (by have := HN.out; omega)⟩
      obtain ⟨rfl, c0, c1⟩ := H1.out.at hx
      obtain ⟨rfl, d0, d1⟩ := H2.out.at hx
      have c0 := keep_cell hO c0
      have c1 := keep_cell hO c1
      have d0 := keep_cell hO d0
      have d1 := keep_cell hO d1
      have HO := Lib.hid hO
      have hii : (i : Int) < n := by omega
      obtain ⟨xk, hxk⟩ : ∃ xk, x.1 = xk := ⟨_, rfl⟩
      obtain ⟨xv, hxv⟩ : ∃ xv, x.2 = xv := ⟨_, rfl⟩
      rw [hxk] at c0 d0
      rw [hxv] at c1 d1
      clear hxk hxv hx hO
      go_wp2_with fail
      go_quiet (fail)
      go_wp2_with fail
      go_roundg (gk - 1)
      case measure => have := HI.out; omega
      case rel => exact ⟨i + 1, by have := HI.out; omega, by go_num, HO.out.trans (Only.drewN [] _ _)⟩
    · have hin : i = n := by have := HI.out; omega
      subst hin
      have HO := Lib.hid hO
      clear hO hlt
      go_wp2_with fail
      go_ret
      exact ⟨rfl, HO.out⟩

end Go.Proofs.Ytacegkjobfeiiaa

