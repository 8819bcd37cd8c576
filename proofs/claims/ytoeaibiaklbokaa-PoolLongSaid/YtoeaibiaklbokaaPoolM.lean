/- The laws of a row of handles in use, as a slice of the statement's own: no program steps but Next. -/
import Derived.Test.YtoeaibiaklbokaaPoolK
namespace Go.Proofs.Ytoeaibiaklbokaa
open Go.RowKit

set_option maxHeartbeats 400000 in
theorem next31 (x : Int) (w : World) (h0 : 0 ≤ x) (h1 : x < 2147483648) : Calls Try.prog 7 #[.int .i64 x] w fun e w' => ∃ y : Int, e = .returned (.int .i64 y) ∧ 0 ≤ y ∧ y < 2147483648 ∧ w = w' := by
  have e1 : IntKind.i64.wrap (x * 1103515245) = x * 1103515245 := wraps_i64 _ (by omega) (by omega)
  have e2 : IntKind.i64.wrap (x * 1103515245 + 12345) = x * 1103515245 + 12345 := wraps_i64 _ (by omega) (by omega)
  have e3 : IntKind.i64.wrap ((x * 1103515245 + 12345).tmod 2147483648) = (x * 1103515245 + 12345) % 2147483648 := by
    rw [Int.tmod_eq_emod_of_nonneg (by omega)]
    exact wraps_i64 _ (by omega) (by omega)
  go_enter Try.func7, Try.ntmps7
  go_wp2_with fail
  go_ret
  exact ⟨_, rfl, by omega, by omega, rfl⟩

/-- What a handle's record tells: seven cells. -/
def hc (S : Nat → Sl) (i : Nat) : List Value := [.int .i64 (wd i (S i).gen), .int .i64 (S i).mark, .int .i64 (S i).link, .int .i64 (S i).a, .int .i64 (S i).b, .int .i64 (S i).c, .int .i64 (S i).d]
def hcs (S : Nat → Sl) (L : List Nat) : List Value := L.flatMap (hc S)

theorem hcs_length (S : Nat → Sl) : ∀ L, (hcs S L).length = L.length * 7
  | [] => rfl
  | a :: L => by
    show (hc S a ++ hcs S L).length = _
    rw [List.length_append, hcs_length S L, List.length_cons]; simp [hc]; omega

theorem hcs_append (S : Nat → Sl) (L M : List Nat) : hcs S (L ++ M) = hcs S L ++ hcs S M := by simp [hcs]

theorem hcs_congr {S S' : Nat → Sl} : ∀ {L : List Nat}, (∀ j, j ∈ L → S j = S' j) → hcs S L = hcs S' L
  | [], _ => rfl
  | a :: L, h => by
    show hc S a ++ hcs S L = hc S' a ++ hcs S' L
    rw [hcs_congr fun j hj => h j (by simp [hj])]
    simp [hc, h a (by simp)]

theorem hcs_take (S : Nat → Sl) : ∀ (L : List Nat) (m : Nat), (hcs S L).take (m * 7) = hcs S (L.take m)
  | [], m => by simp [hcs]
  | a :: L, 0 => by simp [hcs]
  | a :: L, m + 1 => by
    show (hc S a ++ hcs S L).take ((m + 1) * 7) = hc S a ++ hcs S (L.take m)
    rw [List.take_append, ← hcs_take S L m]
    have e : (hc S a).length = 7 := rfl
    rw [e, show (m + 1) * 7 - 7 = m * 7 from by omega, List.take_of_length_le (by rw [e]; omega)]

/-- The row of handles in use: the slice's cells lie in a block of their own. -/
theorem held_cell {w : World} {base : Nat} {v : Value} {S : Nat → Sl} {pre suf : List Nat} {i : Nat} (h : w.ownsRow base 33 7 v (pre ++ i :: suf).length (hcs S (pre ++ i :: suf))) :
    ∃ g cap, v = .slice (some ⟨g, 0, none⟩) (pre ++ i :: suf).length cap ∧ base ≤ g ∧ g < w.heap.size ∧ (pre ++ i :: suf).length ≤ cap ∧ cap ≤ maxLen ∧ (∀ j, w.frozen? ⟨g, j, none⟩ = false) ∧ ∀ j u, (hc S i)[j]? = some u → w.cell? ⟨g, pre.length * 7 + j, none⟩ = some u := by
  obtain ⟨g, cap, rest, hv, hg, hn, hm, hB⟩ := own_open7 h (by simp; omega)
  refine ⟨g, cap, hv, hg, hB.lt, hn, hm, hB.free, ?_⟩
  intro j u hu
  refine hB.cell _ ?_
  have hj : j < 7 := by
    have := (List.getElem?_eq_some_iff.1 hu).1
    simpa [hc] using this
  have e : hcs S (pre ++ i :: suf) = hcs S pre ++ (hc S i ++ hcs S suf) := by rw [hcs_append]; rfl
  rw [e, List.getElem?_toArray, List.append_assoc, List.getElem?_append_right (by rw [hcs_length]; omega), hcs_length, List.append_assoc, List.getElem?_append_left (by simp [hc]; omega)]
  rw [show pre.length * 7 + j - pre.length * 7 = j from by omega]
  exact hu

theorem ownsRow_set {w : World} {base : Nat} {e : TypeId} {g n cap : Nat} {xs : List Value} (h : w.ownsRow base e 7 (.slice (some ⟨g, 0, none⟩) n cap) n xs) (j : Nat) (u : Value) :
    (w.setCell ⟨g, j, none⟩ u).ownsRow base e 7 (.slice (some ⟨g, 0, none⟩) n cap) n (xs.set j u) := by
  obtain ⟨hl, h⟩ := h
  refine ⟨by simpa using hl, ?_⟩
  rcases h with ⟨h, _⟩ | ⟨g', cap', cur, hv, hg, hb, hnc, hm, hs, ht⟩
  · cases h
  · cases hv
    refine Or.inr ⟨g, cap, cur.setIfInBounds j u, rfl, hg, ?_, hnc, hm, by simpa using hs, ?_⟩
    · exact (show Blk w g cur e from hb).set_same j u
    · rw [← ht]
      simp [List.take_set]

theorem hcs_mid (S : Nat → Sl) (pre suf : List Nat) (i j : Nat) (hj : j < 7) (u : Value) : (hcs S (pre ++ i :: suf)).set (pre.length * 7 + j) u = hcs S pre ++ ((hc S i).set j u ++ hcs S suf) := by
  have e : hcs S (pre ++ i :: suf) = hcs S pre ++ (hc S i ++ hcs S suf) := by rw [hcs_append]; rfl
  rw [e, List.set_append_right _ _ (by rw [hcs_length]; omega), hcs_length, show pre.length * 7 + j - pre.length * 7 = j from by omega, List.set_append_left _ _ (by simp [hc]; omega)]

/-- A slot's turn that its record is told as well. -/
theorem held_put {w : World} {base g cap n : Nat} {S : Nat → Sl} {pre suf : List Nat} {i : Nat} (hd : (pre ++ i :: suf).Nodup) (h : w.ownsRow base 33 7 (.slice (some ⟨g, 0, none⟩) n cap) n (hcs S (pre ++ i :: suf))) (j : Nat) (hj : j < 7) (u : Value) (s : Sl) (hs : (hc S i).set j u = hc (upS S i s) i) :
    (w.setCell ⟨g, pre.length * 7 + j, none⟩ u).ownsRow base 33 7 (.slice (some ⟨g, 0, none⟩) n cap) n (hcs (upS S i s) (pre ++ i :: suf)) := by
  have := ownsRow_set h (pre.length * 7 + j) u
  rw [hcs_mid S pre suf i j hj u, hs] at this
  have e : hcs (upS S i s) (pre ++ i :: suf) = hcs (upS S i s) pre ++ (hc (upS S i s) i ++ hcs (upS S i s) suf) := by rw [hcs_append]; rfl
  rw [e]
  rw [List.nodup_append, List.nodup_cons] at hd
  obtain ⟨h1, ⟨h2, h3⟩, h4⟩ := hd
  rw [hcs_congr (L := pre) (S := upS S i s) (S' := S) (fun k hk => upS_other _ _ (fun e => h4 k hk i (by simp) e)), hcs_congr (L := suf) (S := upS S i s) (S' := S) (fun k hk => upS_other _ _ (fun e => h2 (e ▸ hk)))]
  exact this

/-- The last record goes where the handle lay that was given back; then the row is one shorter. -/
theorem held_swap {w : World} {base g cap n : Nat} {S : Nat → Sl} {pre suf : List Nat} {i l : Nat} (hn : n = (pre ++ i :: suf).length) (h : w.ownsRow base 33 7 (.slice (some ⟨g, 0, none⟩) n cap) n (hcs S (pre ++ i :: suf))) (u0 u1 u2 u3 u4 u5 u6 : Value) (hl : hc S l = [u0, u1, u2, u3, u4, u5, u6]) :
    (((((((w.setCell ⟨g, pre.length * 7, none⟩ u0).setCell ⟨g, pre.length * 7 + 1, none⟩ u1).setCell ⟨g, pre.length * 7 + 2, none⟩ u2).setCell ⟨g, pre.length * 7 + 3, none⟩ u3).setCell ⟨g, pre.length * 7 + 4, none⟩ u4).setCell ⟨g, pre.length * 7 + 5, none⟩ u5).setCell ⟨g, pre.length * 7 + 6, none⟩ u6).ownsRow base 33 7 (.slice (some ⟨g, 0, none⟩) (n - 1) cap) (n - 1) (hcs S ((pre ++ l :: suf).take (n - 1))) := by
  have hx := ownsRow_set (ownsRow_set (ownsRow_set (ownsRow_set (ownsRow_set (ownsRow_set (ownsRow_set h (pre.length * 7) u0) (pre.length * 7 + 1) u1) (pre.length * 7 + 2) u2) (pre.length * 7 + 3) u3) (pre.length * 7 + 4) u4) (pre.length * 7 + 5) u5) (pre.length * 7 + 6) u6
  generalize (((((((w.setCell ⟨g, pre.length * 7, none⟩ u0).setCell ⟨g, pre.length * 7 + 1, none⟩ u1).setCell ⟨g, pre.length * 7 + 2, none⟩ u2).setCell ⟨g, pre.length * 7 + 3, none⟩ u3).setCell ⟨g, pre.length * 7 + 4, none⟩ u4).setCell ⟨g, pre.length * 7 + 5, none⟩ u5).setCell ⟨g, pre.length * 7 + 6, none⟩ u6) = w' at hx ⊢
  have key : ∀ A B : List Value, A.length = pre.length * 7 → ∀ c0 c1 c2 c3 c4 c5 c6 : Value, (((((((A ++ (c0 :: c1 :: c2 :: c3 :: c4 :: c5 :: c6 :: B)).set (pre.length * 7) u0).set (pre.length * 7 + 1) u1).set (pre.length * 7 + 2) u2).set (pre.length * 7 + 3) u3).set (pre.length * 7 + 4) u4).set (pre.length * 7 + 5) u5).set (pre.length * 7 + 6) u6 = A ++ (u0 :: u1 :: u2 :: u3 :: u4 :: u5 :: u6 :: B) := by
    intro A B hA c0 c1 c2 c3 c4 c5 c6
    have hs : ∀ (M : List Value) (k : Nat) (u : Value), (A ++ M).set (pre.length * 7 + k) u = A ++ M.set k u := by
      intro M k u
      rw [List.set_append_right _ _ (by omega), hA, show pre.length * 7 + k - pre.length * 7 = k from by omega]
    have h0 := hs (c0 :: c1 :: c2 :: c3 :: c4 :: c5 :: c6 :: B) 0 u0
    rw [Nat.add_zero] at h0
    rw [h0, hs, hs, hs, hs, hs, hs]
    rfl
  have e : hcs S (pre ++ i :: suf) = hcs S pre ++ (.int .i64 (wd i (S i).gen) :: .int .i64 (S i).mark :: .int .i64 (S i).link :: .int .i64 (S i).a :: .int .i64 (S i).b :: .int .i64 (S i).c :: .int .i64 (S i).d :: hcs S suf) := by rw [hcs_append]; rfl
  rw [e, key _ _ (hcs_length S pre)] at hx
  have e2 : hcs S (pre ++ l :: suf) = hcs S pre ++ (u0 :: u1 :: u2 :: u3 :: u4 :: u5 :: u6 :: hcs S suf) := by
    rw [hcs_append]
    show _ ++ (hc S l ++ _) = _
    rw [hl]; rfl
  rw [← e2] at hx
  obtain ⟨h1, h2⟩ := hx
  have hlen : (pre ++ l :: suf).length = n := by rw [hn]; simp
  refine ⟨by rw [hcs_length, List.length_take, hlen]; simp, ?_⟩
  rcases h2 with ⟨h2, _⟩ | ⟨g', cap', cur, hv, hg, hb, hnc, hm, hs, ht⟩
  · cases h2
  · cases hv
    refine Or.inr ⟨g, cap, cur, rfl, hg, hb, by omega, hm, hs, ?_⟩
    rw [← hcs_take, ← ht, List.take_take, Nat.min_eq_left (by omega)]

theorem last_of {pre suf : List Nat} {i : Nat} : ∃ pre' l, pre ++ i :: suf = pre' ++ [l] ∧ pre'.length + 1 = (pre ++ i :: suf).length ∧ ((pre ++ l :: suf).take pre'.length).length = pre'.length ∧ (pre ++ i :: suf).Perm (i :: (pre ++ l :: suf).take pre'.length) := by
  rcases suf.eq_nil_or_concat with rfl | ⟨s, l, rfl⟩
  · refine ⟨pre, i, rfl, by simp, by simp, ?_⟩
    rw [List.take_left]
    simp
  · refine ⟨pre ++ i :: s, l, by simp, by simp; omega, by simp, ?_⟩
    have e : (pre ++ l :: s.concat l).take (pre ++ i :: s).length = pre ++ l :: s := by
      rw [show pre ++ l :: s.concat l = (pre ++ l :: s) ++ [l] from by simp, List.take_left' (by simp)]
    rw [e]
    have h1 : (pre ++ i :: s.concat l).Perm (pre ++ i :: (l :: s)) := by
      refine List.Perm.append_left pre (List.Perm.cons i ?_)
      simp
    exact h1.trans List.perm_middle

theorem own_slice {w : World} {base : Nat} {e : TypeId} {sz : Nat} {v : Value} {n : Nat} {xs : List Value} (h : w.ownsRow base e sz v n xs) : ∃ ad cap, v = .slice ad n cap := by
  obtain ⟨_, h⟩ := h
  rcases h with ⟨rfl, rfl⟩ | ⟨g, cap, _, rfl, _⟩
  · exact ⟨_, _, rfl⟩
  · exact ⟨_, _, rfl⟩

theorem own_only {w w' : World} {base : Nat} {e : TypeId} {sz : Nat} {v : Value} {n : Nat} {xs : List Value} {T : List Nat} (h : w.ownsRow base e sz v n xs) (o : Only T w w') (hT : ∀ k, v.ownBlock = some k → k ∉ T) : w'.ownsRow base e sz v n xs := by
  obtain ⟨hl, h⟩ := h
  refine ⟨hl, ?_⟩
  rcases h with h | ⟨g, cap, cur, hv, hg, hb, hr⟩
  · exact Or.inl h
  · exact Or.inr ⟨g, cap, cur, hv, hg, Blk.only hb o (hT g (by rw [hv]; rfl)), hr⟩

theorem own_pool {w w' : World} {base : Nat} {e : TypeId} {sz : Nat} {v : Value} {n : Nat} {xs : List Value} {T : List Nat} (h : w.ownsRow base e sz v n xs) (o : Only T w w') (hT : ∀ k, k ∈ T → k < base) : w'.ownsRow base e sz v n xs :=
  own_only h o fun k hk hm => by have := h.lt k hk; have := hT k hm; omega

theorem held_at {w : World} {base p cap : Nat} {ad : Option Addr} {S : Nat → Sl} {L : List Nat} (h : w.ownsRow base 33 7 (.slice ad L.length cap) L.length (hcs S L)) (hp : p < L.length) :
    ∃ g pre i suf, ad = some ⟨g, 0, none⟩ ∧ L = pre ++ i :: suf ∧ pre.length = p ∧ base ≤ g ∧ g < w.heap.size ∧ L.length ≤ cap ∧ cap ≤ maxLen ∧ (∀ j, w.frozen? ⟨g, j, none⟩ = false) ∧ ∀ j u, (hc S i)[j]? = some u → w.cell? ⟨g, p * 7 + j, none⟩ = some u := by
  have hL : L = L.take p ++ L[p] :: L.drop (p + 1) := by simp
  have hl : (L.take p).length = p := by simp; omega
  generalize L[p] = i at hL
  generalize L.take p = pre at hL hl
  generalize L.drop (p + 1) = suf at hL
  subst hL
  obtain ⟨g, cap', hv, hg, hgl, hn, hm, hf, hc⟩ := held_cell h
  cases hv
  subst hl
  exact ⟨g, pre, i, suf, rfl, rfl, rfl, hg, hgl, hn, hm, hf, hc⟩

theorem hcs_push (S : Nat → Sl) (L : List Nat) (i : Nat) (hi : i ∉ L) (g m l a b c d : Int) : hcs (upS S i ⟨g, m, l, a, b, c, d⟩) (L ++ [i]) = hcs S L ++ [.int .i64 (wd i g), .int .i64 m, .int .i64 l, .int .i64 a, .int .i64 b, .int .i64 c, .int .i64 d] := by
  have e : ∀ j, j ∈ L → upS S i ⟨g, m, l, a, b, c, d⟩ j = S j := by
    intro j hj
    refine upS_other _ _ ?_
    intro e
    subst e
    exact hi hj
  rw [hcs_append, hcs_congr e]
  simp [hcs, hc, upS_same]

theorem info_held : (Try.prog.info? 33).map (fun i => (i.zero, i.size, i.bytes)) = some (some (.agg #[.int .i64 0, .int .i64 0, .int .i64 0, .int .i64 0, .int .i64 0, .int .i64 0, .int .i64 0]), 7, 56) := by kernel_rfl

/-- The books of a run: the handles in use L, the free places fs, the last handle that was given back. -/
structure Bk (n : Nat) (S : Nat → Sl) (t : Int) (fs : List Nat) (fa : Int) (L : List Nat) (last : Int) (k : Nat) : Prop where
  once : L.Nodup
  used : ∀ x, x ∈ L → 1 ≤ x ∧ x ≤ n ∧ x ∉ fs ∧ (S x).gen % 2 = 1
  many : L.length + fs.length = n
  even : ∀ x, x ∈ fs → (S x).gen % 2 = 0
  fonce : fs.Nodup
  frange : ∀ x, x ∈ fs → 1 ≤ x ∧ x ≤ n
  gens : ∀ j, 0 ≤ (S j).gen ∧ (S j).gen ≤ k
  tag : 0 ≤ t ∧ t ≤ k
  flt : 0 ≤ fa ∧ fa ≤ k
  past : last = 0 ∨ ∃ (j : Nat) (g : Int), 1 ≤ j ∧ j ≤ n ∧ last = wd j g ∧ g % 2 = 1 ∧ 0 ≤ g ∧ g < (S j).gen

theorem Bk.start (n : Nat) : Bk n (fun _ => slot0) 0 (List.range' 1 n) 0 [] 0 0 where
  once := List.nodup_nil
  used := by simp
  many := by simp
  even := by simp [slot0]
  fonce := List.nodup_range'
  frange := by simp [List.mem_range'_1]; omega
  gens := by simp [slot0]
  tag := by simp
  flt := by simp
  past := Or.inl rfl

theorem Bk.later {n : Nat} {S : Nat → Sl} {t : Int} {fs : List Nat} {fa : Int} {L : List Nat} {last : Int} {k : Nat} (h : Bk n S t fs fa L last k) : Bk n S t fs fa L last (k + 1) :=
  { h with gens := fun j => by have := h.gens j; omega, tag := by have := h.tag; omega, flt := by have := h.flt; omega }

theorem Bk.fault {n : Nat} {S : Nat → Sl} {t : Int} {fs : List Nat} {fa : Int} {L : List Nat} {last : Int} {k : Nat} (h : Bk n S t fs fa L last k) : Bk n S t fs (fa + 1) L last (k + 1) :=
  { h.later with flt := by have := h.flt; omega }

/-- A mark or a link turned: the books stay. -/
theorem Bk.turned {n : Nat} {S : Nat → Sl} {t : Int} {fs : List Nat} {fa : Int} {L : List Nat} {last : Int} {k : Nat} (h : Bk n S t fs fa L last k) (i : Nat) (s : Sl) (hs : s.gen = (S i).gen) : Bk n (upS S i s) t fs fa L last (k + 1) := by
  have e : ∀ j, (upS S i s j).gen = (S j).gen := by
    intro j
    by_cases hj : j = i
    · subst hj; rw [upS_same, hs]
    · rw [upS_other _ _ hj]
  have h1 := h.later
  exact ⟨h1.once, by simpa [e] using h1.used, h1.many, by simpa [e] using h1.even, h1.fonce, h1.frange, by simpa [e] using h1.gens, h1.tag, h1.flt, by simpa [e] using h1.past⟩

theorem Bk.take {n i : Nat} {S : Nat → Sl} {t : Int} {r : List Nat} {fa : Int} {L : List Nat} {last : Int} {k : Nat} (h : Bk n S t (i :: r) fa L last k) (s : Sl) (hs : s.gen = (S i).gen + 1) : Bk n (upS S i s) (t + 1) r fa (L ++ [i]) last (k + 1) := by
  have hi : i ∉ L := fun hm => (h.used i hm).2.2.1 (by simp)
  have hf := h.fonce
  rw [List.nodup_cons] at hf
  have hr := h.frange i (by simp)
  have hev := h.even i (by simp)
  refine ⟨?_, ?_, ?_, ?_, hf.2, fun x hx => h.frange x (by simp [hx]), ?_, ?_, ?_, ?_⟩
  · rw [List.nodup_append]
    exact ⟨h.once, by simp, by intro a ha b hb; simp at hb; subst hb; exact fun e => hi (e ▸ ha)⟩
  · intro x hx
    rw [List.mem_append] at hx
    rcases hx with hx | hx
    · have := h.used x hx
      have hne : x ≠ i := fun e => hi (e ▸ hx)
      rw [upS_other _ _ hne]
      exact ⟨this.1, this.2.1, fun hm => this.2.2.1 (by simp [hm]), this.2.2.2⟩
    · simp at hx; subst hx
      rw [upS_same, hs]
      exact ⟨hr.1, hr.2, hf.1, by omega⟩
  · have := h.many; simp at this ⊢; omega
  · intro x hx
    have hne : x ≠ i := fun e => hf.1 (e ▸ hx)
    rw [upS_other _ _ hne]
    exact h.even x (by simp [hx])
  · intro j
    by_cases hj : j = i
    · subst hj; rw [upS_same, hs]; have := h.gens j; omega
    · rw [upS_other _ _ hj]; have := h.gens j; omega
  · have := h.tag; omega
  · have := h.flt; omega
  · rcases h.past with h0 | ⟨j, g, h1, h2, h3, h4, h5, h6⟩
    · exact Or.inl h0
    · refine Or.inr ⟨j, g, h1, h2, h3, h4, h5, ?_⟩
      by_cases hj : j = i
      · subst hj; rw [upS_same, hs]; omega
      · rw [upS_other _ _ hj]; exact h6

theorem Bk.give {n i : Nat} {S : Nat → Sl} {t : Int} {fs : List Nat} {fa : Int} {L L' : List Nat} {last : Int} {k : Nat} (h : Bk n S t fs fa L last k) (hp : L.Perm (i :: L')) : Bk n (upS S i (poisoned ((S i).gen + 1))) (t + 1) (i :: fs) fa L' (wd i (S i).gen) (k + 1) := by
  have hd := (hp.nodup_iff).1 h.once
  rw [List.nodup_cons] at hd
  have hu := h.used i (hp.mem_iff.2 (by simp))
  have hge := h.gens i
  refine ⟨hd.2, ?_, ?_, ?_, List.nodup_cons.2 ⟨hu.2.2.1, h.fonce⟩, ?_, ?_, ?_, ?_, Or.inr ⟨i, (S i).gen, hu.1, hu.2.1, rfl, hu.2.2.2, hge.1, ?_⟩⟩
  · intro x hx
    have hne : x ≠ i := fun e => hd.1 (e ▸ hx)
    have := h.used x (hp.mem_iff.2 (by simp [hx]))
    rw [upS_other _ _ hne]
    exact ⟨this.1, this.2.1, by simp [hne, this.2.2.1], this.2.2.2⟩
  · have := h.many
    have hl := hp.length_eq
    simp at hl ⊢; omega
  · intro x hx
    by_cases hj : x = i
    · subst hj; rw [upS_same]; simp [poisoned]; omega
    · rw [upS_other _ _ hj]; exact h.even x (by simpa [hj] using hx)
  · intro x hx
    rcases List.mem_cons.1 hx with rfl | hx
    · exact ⟨hu.1, hu.2.1⟩
    · exact h.frange x hx
  · intro j
    by_cases hj : j = i
    · subst hj; rw [upS_same]; simp [poisoned]; omega
    · rw [upS_other _ _ hj]; have := h.gens j; omega
  · have := h.tag; omega
  · have := h.flt; omega
  · rw [upS_same]; simp [poisoned]; omega

end Go.Proofs.Ytoeaibiaklbokaa
