/- From the first loop to the second; what a round's test finds. No condition of its own. -/
import Derived.Test.YtbcdkcepgbegjaaLazyP
namespace Go.Proofs.Ytbcdkcepgbegjaa
open Go.RowKit

def st0 : St := ⟨false, false, false, false, 0, none, 0, false⟩

theorem Bun.slices {base tv k : Nat} {ow : Nat → Nat} {w : World} {ps : Nat → PU} {vs : Nat → Value} {u : Value} {ns : List (Nat × Array Value × TypeId)} (h : Bun base tv k ow w ps vs (fields ps k) u ns) (hk : 0 < k) :
    ∃ g cp : Nat → Nat, ∀ r, 10 ≤ r → r ≤ 17 → vs r = .slice (some ⟨g r, 0, none⟩) k (cp r) := by
  have h1 : ∀ r, ∃ p : Nat × Nat, 10 ≤ r → r ≤ 17 → vs r = .slice (some ⟨p.1, 0, none⟩) k p.2 := by
    intro r
    by_cases hr : 10 ≤ r ∧ r ≤ 17
    · have hR := h.rows r hr.1 hr.2
      obtain ⟨ad, c, hv⟩ := hR.slice' (m := k) (by simp [fields])
      rw [hv] at hR
      obtain ⟨g, e, _⟩ := hR.at (by simp [fields]; omega)
      exact ⟨(g, c), fun _ _ => by rw [hv, e]⟩
    · exact ⟨(0, 0), fun a b => absurd ⟨a, b⟩ hr⟩
  obtain ⟨f, hf⟩ := Classical.axiomOfChoice h1
  exact ⟨fun r => (f r).1, fun r => (f r).2, hf⟩

theorem ownsRow_low {w : World} {base base' : Nat} {e : TypeId} {sz : Nat} {v : Value} {n : Nat} {xs : List Value} (h : w.ownsRow base e sz v n xs) (hb : base' ≤ base) : w.ownsRow base' e sz v n xs := by
  obtain ⟨hl, h⟩ := h
  refine ⟨hl, ?_⟩
  rcases h with h | ⟨g, cap, cur, hv, hg, hr⟩
  · exact Or.inl h
  · exact Or.inr ⟨g, cap, cur, hv, by omega, hr⟩

theorem main_start {W w w1 : World} {tv tb fb n gt ct : Nat} {g cp : Nat → Nat} {ow ow1 : Nat → Nat} {ps : Nat → PU} {ts : Nat → TU} {vs : Nat → Value} (hB : Bun W.heap.size tv n ow w ps vs (fields ps n) (vs 14) []) (hv : ∀ r, 10 ≤ r → r ≤ 17 → vs r = .slice (some ⟨g r, 0, none⟩) n (cp r))
    (hT : TabAt (.func (.func 9) #[] #[.pointer (some ⟨tv, 0, none⟩)]) w.heap.size fb tb n ow1 w1 (.slice (some ⟨gt, 0, none⟩) n ct) ts) (hO : Only [] w w1) (hW : Only [] W w) :
    ∃ ow2, Main W tv tb fb n g cp gt ct ps ts ow2 w1 (fun _ => st0) := by
  refine ⟨fun b => if b < w.heap.size then ow b else ow1 b, ?_⟩
  have hE : Ext ow (fun b => if b < w.heap.size then ow b else ow1 b) w := fun b hb => by simp [hb]
  have hlow := hW.size
  have conv : ∀ (l : Nat) (bs : List Nat), At w.heap.size ow1 l w1 bs → At W.heap.size (fun b => if b < w.heap.size then ow b else ow1 b) l w1 bs := by
    intro l bs h b hb
    obtain ⟨h1, h2, h3⟩ := h b hb
    refine ⟨by omega, h2, ?_⟩
    show (if b < w.heap.size then ow b else ow1 b) = l
    rw [if_neg (by omega)]; exact h3
  refine ⟨⟨fun i hi => ?_, fun i hi => ?_⟩, fun r h1 h2 => ?_, ⟨ownsRow_low hT.row.own hlow, conv _ _ hT.row.lies⟩, ?_, hT.head, hT.box, conv _ _ hT.lies, hB.tl.ext hE hO.size, hT.idx, hW.trans hO⟩
  · have p := PU.stable w w1 (ps i) [] (hB.units.each i hi) hO (by simp)
    have t := hT.units.each i hi
    have hlp := hB.units.lies i hi
    have hlt := hT.units.lies i hi
    refine ⟨p.x, p.bx, p.o, p.a, p.y, p.bY, p.r, (fun q hq => by cases hq), p.b, p.z, p.c, t.once, t.var, ?_⟩
    show ((ps i).bl ++ [(ts i).tn, (ts i).iv] ++ []).Nodup
    rw [List.append_nil, List.nodup_append]
    refine ⟨p.apart, by simp [t.apart], fun a ha b hb e => ?_⟩
    have h1 := (hlp a ha).2.1
    have h2 := (hlt b hb).1
    omega
  · have h1 := (hB.units.lies i hi).ext hE hO.size
    have h2 := conv _ _ (hT.units.lies i hi)
    intro b hb
    have hb2 : b ∈ (ps i).bl ++ [(ts i).tn, (ts i).iv] ++ [] := hb
    rw [List.append_nil] at hb2
    rcases List.mem_append.1 hb2 with h3 | h3
    · exact h1 b h3
    · exact h2 b h3
  · have := (hB.rows r h1 h2).only hO (Off.nil _ _ _) hE
    rw [hv r h1 h2] at this
    exact this
  · have := hB.var.only hO (by simp)
    rw [hv 14 (by decide) (by decide)] at this
    exact this

/-- The program's side and the document's stand alike. -/
structure Sync (s : St) : Prop where
  o : s.aO = s.aA
  t : s.aT = s.aC
  n : s.n = s.nB
  d : s.kp.isSome = s.dB

theorem sync0 : Sync st0 := ⟨rfl, rfl, rfl, rfl⟩

def cnt : Bool → Int
  | true => 1
  | false => 0

/-- What the test at a round's end reads. -/
structure Finds (ps : Nat → PU) (w : World) (k : Nat) (d1 d2 : Bool) (c1 c2 c3 : Int) : Prop where
  a5 : w.cell? ⟨(ps k).a, 5, none⟩ = some (.bool d1)
  b5 : w.cell? ⟨(ps k).b, 5, none⟩ = some (.bool d2)
  x3 : w.cell? ⟨(ps k).x, 3, none⟩ = some (.int .i64 c1)
  a4 : w.cell? ⟨(ps k).a, 4, none⟩ = some (.int .i64 c1)
  y3 : w.cell? ⟨(ps k).y, 3, none⟩ = some (.int .i64 c2)
  b4 : w.cell? ⟨(ps k).b, 4, none⟩ = some (.int .i64 c2)
  z3 : w.cell? ⟨(ps k).z, 3, none⟩ = some (.int .i64 c3)
  c4 : w.cell? ⟨(ps k).c, 4, none⟩ = some (.int .i64 c3)

theorem Main.finds {W : World} {tv tb fb n : Nat} {g cp : Nat → Nat} {gt ct : Nat} {ps : Nat → PU} {ts : Nat → TU} {ow : Nat → Nat} {w : World} {ss : Nat → St} (h : Main W tv tb fb n g cp gt ct ps ts ow w ss) {k : Nat} (hk : k < n) (hs : Sync (ss k)) :
    Finds ps w k ((ss k).aO && ((ps k).m.out 1).well) (ss k).kp.isSome (cnt (ss k).aO) (ss k).n (cnt (ss k).aT) := by
  obtain ⟨U, _⟩ := h.unit hk
  have ha := U.a
  have hb := U.b
  have hx := U.x
  have hy := U.y
  have hz := U.z
  have hc := U.c
  simp only at ha hb hx hy hz hc
  rw [← hs.o] at ha
  rw [← hs.t] at hc
  rw [← hs.n, ← hs.d] at hb
  refine ⟨?_, ?_, ?_, ?_, hy.cell 3 rfl, ?_, ?_, ?_⟩
  · cases e : (ss k).aO <;> rw [e] at ha <;> exact ha.cell 5 rfl
  · cases e : (ss k).kp.isSome <;> rw [e] at hb <;> exact hb.cell 5 rfl
  · cases e : (ss k).aO <;> rw [e] at hx <;> exact hx.cell 3 rfl
  · cases e : (ss k).aO <;> rw [e] at ha <;> exact ha.cell 4 rfl
  · cases e : (ss k).kp.isSome <;> rw [e] at hb <;> exact hb.cell 4 rfl
  · cases e : (ss k).aT <;> rw [e] at hz <;> exact hz.cell 3 rfl
  · cases e : (ss k).aT <;> rw [e] at hc <;> exact hc.cell 4 rfl

theorem Main.cdone {W : World} {tv tb fb n : Nat} {g cp : Nat → Nat} {gt ct : Nat} {ps : Nat → PU} {ts : Nat → TU} {ow : Nat → Nat} {w : World} {ss : Nat → St} (h : Main W tv tb fb n g cp gt ct ps ts ow w ss) {k : Nat} (hk : k < n) (hs : Sync (ss k)) : w.cell? ⟨(ps k).c, 5, none⟩ = some (.bool (madeAt ps ss k)) := by
  have hc := (h.unit hk).1.c
  simp only at hc
  rw [← hs.t] at hc
  unfold madeAt
  cases e : (ss k).aT <;> rw [e] at hc <;> exact hc.cell 5 rfl

/-- All stand alike; no Retry's maker was called more often than j times. -/
def Even (n : Nat) (ss : Nat → St) (j : Nat) : Prop := (∀ i, i < n → Sync (ss i)) ∧ ∀ i, (ss i).n ≤ j

/-- Behind the document's answer: all stands alike again. -/
def After (W : World) (tv tb fb n : Nat) (g cp : Nat → Nat) (gt ct : Nat) (ps : Nat → PU) (ts : Nat → TU) (j : Nat) (r : Ending) (e : Ending) (w' : World) : Prop :=
  e = r ∧ ∃ (ow : Nat → Nat) (ss : Nat → St), Main W tv tb fb n g cp gt ct ps ts ow w' ss ∧ Even n ss j

section
variable {W : World} {tv tb fb n : Nat} {g cp : Nat → Nat} {gt ct : Nat} {ps : Nat → PU} {ts : Nat → TU} {ow : Nat → Nat} {w : World} {ss : Nat → St}

theorem Even.turn {j i : Nat} {s1 s2 : St} (h : Even n ss j) (hs : Sync s2) (hn : s2.n ≤ j + 1) : Even n (upU (upU ss i s1) i s2) (j + 1) := by
  refine ⟨fun i' hi' => ?_, fun i' => ?_⟩
  · by_cases e : i' = i
    · subst e; rw [upU_same]; exact hs
    · rw [upU_other _ _ e, upU_other _ _ e]; exact h.1 i' hi'
  · by_cases e : i' = i
    · subst e; rw [upU_same]; exact hn
    · rw [upU_other _ _ e, upU_other _ _ e]; have := h.2 i'; omega

theorem r_refA {j i : Nat} (h : Main W tv tb fb n g cp gt ct ps ts ow w (upU ss i { ss i with aO := true })) (hi : i < n) (he : Even n ss j) :
    Calls Try.prog 11 #[ptr (ps i).a] w (After W tv tb fb n g cp gt ct ps ts (j + 1) (.returned (.tuple #[.int .i64 ((ps i).m.out 1).val, .int .i64 ((ps i).m.out 1).err]))) := by
  refine (m_refA h hi).mono ?_
  rintro e w' ⟨rfl, hM⟩
  rw [upU_same] at hM
  have hs := he.1 i hi
  exact ⟨rfl, _, _, hM, he.turn ⟨rfl, hs.t, hs.n, hs.d⟩ (by have := he.2 i; show (ss i).n ≤ j + 1; omega)⟩

theorem r_refC {j i : Nat} (h : Main W tv tb fb n g cp gt ct ps ts ow w (upU ss i { ss i with aT := true })) (hi : i < n) (he : Even n ss j) :
    Calls Try.prog 11 #[ptr (ps i).c] w (After W tv tb fb n g cp gt ct ps ts (j + 1) (.returned (.tuple #[.int .i64 ((ps i).m.out 1).val, .int .i64 ((ps i).m.out 1).err]))) := by
  refine (m_refC h hi).mono ?_
  rintro e w' ⟨rfl, hM⟩
  rw [upU_same] at hM
  have hs := he.1 i hi
  exact ⟨rfl, _, _, hM, he.turn ⟨hs.o, rfl, hs.n, hs.d⟩ (by have := he.2 i; show (ss i).n ≤ j + 1; omega)⟩

theorem r_refB {j i : Nat} {kp' : Option Nat} (h : Main W tv tb fb n g cp gt ct ps ts ow w (upU ss i { ss i with n := retN (ss i).n (ss i).kp.isSome, kp := kp' })) (hi : i < n) (he : Even n ss j) (hk : kp'.isSome = retD (ps i).m (ss i).n (ss i).kp.isSome) (hj : j ≤ 1000) :
    Calls Try.prog 11 #[ptr (ps i).b] w (After W tv tb fb n g cp gt ct ps ts (j + 1) (.returned (.tuple #[.int .i64 (retV (ps i).m (ss i).n (ss i).kp.isSome), .int .i64 (retE (ps i).m (ss i).n (ss i).kp.isSome)]))) := by
  have hs := he.1 i hi
  have hb := he.2 i
  have h1 := m_refB h hi (by rw [upU_same]; show (ss i).nB ≤ 1000; rw [← hs.n]; omega)
  rw [upU_same] at h1
  simp only at h1
  rw [← hs.n, ← hs.d] at h1
  refine h1.mono ?_
  rintro e w' ⟨rfl, hM⟩
  refine ⟨rfl, _, _, hM, he.turn ⟨hs.o, hs.t, rfl, hk⟩ ?_⟩
  show retN (ss i).n (ss i).kp.isSome ≤ j + 1
  cases (ss i).kp.isSome
  · show (ss i).n + 1 ≤ j + 1; omega
  · show (ss i).n ≤ j + 1; omega
end

theorem mades_prefix (ps : Nat → PU) (ss : Nat → St) {i : Nat} : ∀ {k : Nat}, i ≤ k → ∃ t, mades ps ss k = mades ps ss i ++ t
  | 0, h => ⟨[], by have e : i = 0 := by omega
                    subst e; simp⟩
  | k + 1, h => by
    by_cases e : i = k + 1
    · subst e; exact ⟨[], by simp⟩
    · obtain ⟨t, ht⟩ := mades_prefix ps ss (show i ≤ k by omega)
      cases hm : madeAt ps ss k with
      | true => exact ⟨t ++ [k], by rw [mades_yes hm, ht, List.append_assoc]⟩
      | false => exact ⟨t, by rw [mades_no hm, ht]⟩

theorem mades_get {ps : Nat → PU} {ss : Nat → St} {i k : Nat} (h : i < k) (hm : madeAt ps ss i = true) : (mades ps ss i).length < (mades ps ss k).length ∧ ((mades ps ss k).map intV)[(mades ps ss i).length]? = some (intV i) := by
  obtain ⟨t, ht⟩ := mades_prefix ps ss (show i + 1 ≤ k by omega)
  rw [mades_yes hm, List.append_assoc] at ht
  rw [ht]
  refine ⟨by simp, by simp⟩

/-- A place out of any number. -/
theorem place_in (A : Int) (n : Nat) (hn : 1 ≤ n) (hn2 : n ≤ 30) : -30 < A.tmod n ∧ A.tmod n < n ∧ -(n : Int) < A.tmod n := by
  have h1 : A.tmod n < n := Int.tmod_lt_of_pos A (by omega)
  have h2 : -(n : Int) < A.tmod n := by
    rcases Int.le_total 0 A with h | h
    · have := Int.tmod_nonneg (n : Int) h; omega
    · have e : A.tmod n = -((-A).tmod n) := by rw [Int.neg_tmod]; omega
      have := Int.tmod_lt_of_pos (-A) (show (0 : Int) < n by omega)
      omega
  omega

end Go.Proofs.Ytbcdkcepgbegjaa
