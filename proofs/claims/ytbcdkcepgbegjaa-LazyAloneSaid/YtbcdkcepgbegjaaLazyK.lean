/- Three appends in one statement, in whatever order: a law of the region, over its operations as facts. No condition of its own. -/
import Derived.Test.YtbcdkcepgbegjaaLazyI
import Derived.Test.YtbcdkcepgbegjaaInv
namespace Go.Proofs.Ytbcdkcepgbegjaa
open Go.RowKit

/-- One of the appends on its way: its row's value is loaded (operation i0, into slot s0), the new element (i1, s1), a slice of it is made (i2, s2), it is appended (i3, s3), the result is stored (i4). -/
structure Ch (l : Array Bool) (a : Act) (i0 i1 i2 i3 i4 s0 s1 s2 s3 : Nat) (v0 : Value) (L0 : List Nat) (x : Nat) (T : TypeId) (v : Value) (L : List Nat) (ex : List (Nat × Array Value × TypeId)) : Prop where
  c0 : bit l i0 = true → sl a s0 = v0
  c1 : bit l i1 = true → sl a s1 = ptr x
  c2 : bit l i2 = true → ∃ t, sl a s2 = .slice (some ⟨t, 0, none⟩) 1 1 ∧ (t, #[ptr x], T) ∈ ex
  c3 : bit l i3 = false → v = v0 ∧ L = L0
  c4 : bit l i3 = true → sl a s3 = v ∧ L = L0 ++ [x] ∧ bit l i0 = true
  c5 : bit l i4 = true → bit l i3 = true

section
variable {l : Array Bool} {a : Act} {i0 i1 i2 i3 i4 s0 s1 s2 s3 : Nat} {v0 : Value} {L0 : List Nat} {x : Nat} {T : TypeId} {v : Value} {L : List Nat} {ex ex' : List (Nat × Array Value × TypeId)}

theorem Ch.more (h : Ch l a i0 i1 i2 i3 i4 s0 s1 s2 s3 v0 L0 x T v L ex) (hx : ∀ e, e ∈ ex → e ∈ ex') : Ch l a i0 i1 i2 i3 i4 s0 s1 s2 s3 v0 L0 x T v L ex' :=
  ⟨h.c0, h.c1, fun hb => by obtain ⟨t, h1, h2⟩ := h.c2 hb; exact ⟨t, h1, hx _ h2⟩, h.c3, h.c4, h.c5⟩

/-- Another operation is done. -/
theorem Ch.other (h : Ch l a i0 i1 i2 i3 i4 s0 s1 s2 s3 v0 L0 x T v L ex) {j d : Nat} {u : Value} (hj : bit l j = false) (hd : d < a.tmps.size) (n0 : j ≠ i0) (n1 : j ≠ i1) (n2 : j ≠ i2) (n3 : j ≠ i3) (n4 : j ≠ i4) (m0 : d ≠ s0) (m1 : d ≠ s1) (m2 : d ≠ s2) (m3 : d ≠ s3) :
    Ch (l.setIfInBounds j true) (a.put (some d) u) i0 i1 i2 i3 i4 s0 s1 s2 s3 v0 L0 x T v L ex := by
  have b0 := bit_set l j i0 hj; rw [if_neg n0.symm] at b0
  have b1 := bit_set l j i1 hj; rw [if_neg n1.symm] at b1
  have b2 := bit_set l j i2 hj; rw [if_neg n2.symm] at b2
  have b3 := bit_set l j i3 hj; rw [if_neg n3.symm] at b3
  have b4 := bit_set l j i4 hj; rw [if_neg n4.symm] at b4
  have e0 := sl_put (v := u) s0 hd; rw [if_neg m0.symm] at e0
  have e1 := sl_put (v := u) s1 hd; rw [if_neg m1.symm] at e1
  have e2 := sl_put (v := u) s2 hd; rw [if_neg m2.symm] at e2
  have e3 := sl_put (v := u) s3 hd; rw [if_neg m3.symm] at e3
  exact ⟨by rw [b0, e0]; exact h.c0, by rw [b1, e1]; exact h.c1, by rw [b2, e2]; exact h.c2, by rw [b3]; exact h.c3, by rw [b3, e3, b0]; exact h.c4, by rw [b4, b3]; exact h.c5⟩

/-- Another operation without a slot is done. -/
theorem Ch.other' (h : Ch l a i0 i1 i2 i3 i4 s0 s1 s2 s3 v0 L0 x T v L ex) {j : Nat} (hj : bit l j = false) (n0 : j ≠ i0) (n1 : j ≠ i1) (n2 : j ≠ i2) (n3 : j ≠ i3) (n4 : j ≠ i4) :
    Ch (l.setIfInBounds j true) a i0 i1 i2 i3 i4 s0 s1 s2 s3 v0 L0 x T v L ex := by
  have b0 := bit_set l j i0 hj; rw [if_neg n0.symm] at b0
  have b1 := bit_set l j i1 hj; rw [if_neg n1.symm] at b1
  have b2 := bit_set l j i2 hj; rw [if_neg n2.symm] at b2
  have b3 := bit_set l j i3 hj; rw [if_neg n3.symm] at b3
  have b4 := bit_set l j i4 hj; rw [if_neg n4.symm] at b4
  exact ⟨by rw [b0]; exact h.c0, by rw [b1]; exact h.c1, by rw [b2]; exact h.c2, by rw [b3]; exact h.c3, by rw [b3, b0]; exact h.c4, by rw [b4, b3]; exact h.c5⟩

/-- The operations and the slots stand in a row. -/
structure ChAp (i0 i1 i2 i3 i4 s0 s1 s2 s3 : Nat) : Prop where
  i : i0 < i1 ∧ i1 < i2 ∧ i2 < i3 ∧ i3 < i4
  s : s0 < s1 ∧ s1 < s2 ∧ s2 < s3

theorem Ch.go0 (A : ChAp i0 i1 i2 i3 i4 s0 s1 s2 s3) (h : Ch l a i0 i1 i2 i3 i4 s0 s1 s2 s3 v0 L0 x T v L ex) (hj : bit l i0 = false) (hd : s0 < a.tmps.size) : Ch (l.setIfInBounds i0 true) (a.put (some s0) v0) i0 i1 i2 i3 i4 s0 s1 s2 s3 v0 L0 x T v L ex := by
  obtain ⟨hi1, hi2, hi3, hi4⟩ := A.i
  obtain ⟨hs1, hs2, hs3⟩ := A.s
  have b := fun j => bit_set l i0 j hj
  have e := fun j => sl_put (v := v0) j hd
  refine ⟨fun _ => by rw [e, if_pos rfl], ?_, ?_, ?_, ?_, ?_⟩
  · rw [b, e, if_neg (by omega), if_neg (by omega)]; exact h.c1
  · rw [b, e, if_neg (by omega), if_neg (by omega)]; exact h.c2
  · rw [b, if_neg (by omega)]; exact h.c3
  · rw [b, e, if_neg (by omega), if_neg (by omega)]; exact fun hb => by have := (h.c4 hb).2.2; rw [hj] at this; cases this
  · rw [b, b, if_neg (by omega), if_neg (by omega)]; exact h.c5

theorem Ch.go1 (A : ChAp i0 i1 i2 i3 i4 s0 s1 s2 s3) (h : Ch l a i0 i1 i2 i3 i4 s0 s1 s2 s3 v0 L0 x T v L ex) (hj : bit l i1 = false) (hd : s1 < a.tmps.size) : Ch (l.setIfInBounds i1 true) (a.put (some s1) (ptr x)) i0 i1 i2 i3 i4 s0 s1 s2 s3 v0 L0 x T v L ex := by
  obtain ⟨hi1, hi2, hi3, hi4⟩ := A.i
  obtain ⟨hs1, hs2, hs3⟩ := A.s
  have b := fun j => bit_set l i1 j hj
  have e := fun j => sl_put (v := ptr x) j hd
  refine ⟨?_, fun _ => by rw [e, if_pos rfl], ?_, ?_, ?_, ?_⟩
  · rw [b, e, if_neg (by omega), if_neg (by omega)]; exact h.c0
  · rw [b, e, if_neg (by omega), if_neg (by omega)]; exact h.c2
  · rw [b, if_neg (by omega)]; exact h.c3
  · rw [b, e, b, if_neg (by omega), if_neg (by omega), if_neg (by omega)]; exact h.c4
  · rw [b, b, if_neg (by omega), if_neg (by omega)]; exact h.c5

theorem Ch.go2 (A : ChAp i0 i1 i2 i3 i4 s0 s1 s2 s3) (h : Ch l a i0 i1 i2 i3 i4 s0 s1 s2 s3 v0 L0 x T v L ex) (hj : bit l i2 = false) (hd : s2 < a.tmps.size) (t : Nat) : Ch (l.setIfInBounds i2 true) (a.put (some s2) (.slice (some ⟨t, 0, none⟩) 1 1)) i0 i1 i2 i3 i4 s0 s1 s2 s3 v0 L0 x T v L (ex ++ [(t, #[ptr x], T)]) := by
  obtain ⟨hi1, hi2, hi3, hi4⟩ := A.i
  obtain ⟨hs1, hs2, hs3⟩ := A.s
  have b := fun j => bit_set l i2 j hj
  have e := fun j => sl_put (v := .slice (some ⟨t, 0, none⟩) 1 1) j hd
  refine ⟨?_, ?_, fun _ => ⟨t, by rw [e, if_pos rfl], by simp⟩, ?_, ?_, ?_⟩
  · rw [b, e, if_neg (by omega), if_neg (by omega)]; exact h.c0
  · rw [b, e, if_neg (by omega), if_neg (by omega)]; exact h.c1
  · rw [b, if_neg (by omega)]; exact h.c3
  · rw [b, e, b, if_neg (by omega), if_neg (by omega), if_neg (by omega)]; exact h.c4
  · rw [b, b, if_neg (by omega), if_neg (by omega)]; exact h.c5

theorem Ch.go3 (A : ChAp i0 i1 i2 i3 i4 s0 s1 s2 s3) (h : Ch l a i0 i1 i2 i3 i4 s0 s1 s2 s3 v0 L0 x T v L ex) (hj : bit l i3 = false) (h0 : bit l i0 = true) (hd : s3 < a.tmps.size) (v' : Value) : Ch (l.setIfInBounds i3 true) (a.put (some s3) v') i0 i1 i2 i3 i4 s0 s1 s2 s3 v0 L0 x T v' (L ++ [x]) ex := by
  obtain ⟨hi1, hi2, hi3, hi4⟩ := A.i
  obtain ⟨hs1, hs2, hs3⟩ := A.s
  have b := fun j => bit_set l i3 j hj
  have e := fun j => sl_put (v := v') j hd
  refine ⟨?_, ?_, ?_, ?_, ?_, ?_⟩
  · rw [b, e, if_neg (by omega), if_neg (by omega)]; exact h.c0
  · rw [b, e, if_neg (by omega), if_neg (by omega)]; exact h.c1
  · rw [b, e, if_neg (by omega), if_neg (by omega)]; exact h.c2
  · rw [b, if_pos rfl]; exact fun hb => by cases hb
  · rw [b, e, b, if_pos rfl, if_pos rfl, if_neg (by omega)]
    exact fun _ => ⟨rfl, by rw [(h.c3 hj).2], h0⟩
  · rw [b i3, if_pos rfl]; exact fun _ => rfl

theorem Ch.go4 (A : ChAp i0 i1 i2 i3 i4 s0 s1 s2 s3) (h : Ch l a i0 i1 i2 i3 i4 s0 s1 s2 s3 v0 L0 x T v L ex) (hj : bit l i4 = false) (h3 : bit l i3 = true) {d : Nat} {u : Value} (hd : d < a.tmps.size) (m0 : d ≠ s0) (m1 : d ≠ s1) (m2 : d ≠ s2) (m3 : d ≠ s3) : Ch (l.setIfInBounds i4 true) (a.put (some d) u) i0 i1 i2 i3 i4 s0 s1 s2 s3 v0 L0 x T v L ex := by
  obtain ⟨hi1, hi2, hi3, hi4⟩ := A.i
  have b := fun j => bit_set l i4 j hj
  have e := fun j => sl_put (v := u) j hd
  refine ⟨?_, ?_, ?_, ?_, ?_, ?_⟩
  · rw [b, e, if_neg (by omega), if_neg m0.symm]; exact h.c0
  · rw [b, e, if_neg (by omega), if_neg m1.symm]; exact h.c1
  · rw [b, e, if_neg (by omega), if_neg m2.symm]; exact h.c2
  · rw [b, if_neg (by omega)]; exact h.c3
  · rw [b, e, b, if_neg (by omega), if_neg m3.symm, if_neg (by omega)]; exact h.c4
  · rw [b i3, if_neg (by omega)]; exact fun _ => h3

theorem Ch.go4' (A : ChAp i0 i1 i2 i3 i4 s0 s1 s2 s3) (h : Ch l a i0 i1 i2 i3 i4 s0 s1 s2 s3 v0 L0 x T v L ex) (hj : bit l i4 = false) (h3 : bit l i3 = true) : Ch (l.setIfInBounds i4 true) a i0 i1 i2 i3 i4 s0 s1 s2 s3 v0 L0 x T v L ex := by
  obtain ⟨hi1, hi2, hi3, hi4⟩ := A.i
  have b := fun j => bit_set l i4 j hj
  refine ⟨?_, ?_, ?_, ?_, ?_, ?_⟩
  · rw [b, if_neg (by omega)]; exact h.c0
  · rw [b, if_neg (by omega)]; exact h.c1
  · rw [b, if_neg (by omega)]; exact h.c2
  · rw [b, if_neg (by omega)]; exact h.c3
  · rw [b, b, if_neg (by omega), if_neg (by omega)]; exact h.c4
  · rw [b i3, if_neg (by omega)]; exact fun _ => h3
end

end Go.Proofs.Ytbcdkcepgbegjaa
