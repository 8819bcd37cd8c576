/- Each call of a round, as a step of what stands in memory. Conditions: the calls are few. -/
import Derived.Test.YtbcdkcepgbegjaaLazyM
namespace Go.Proofs.Ytbcdkcepgbegjaa
open Go.RowKit

theorem nodup_ne {l : List Nat} (h : l.Nodup) (i j : Nat) {a b : Nat} (hi : l[i]? = some a) (hj : l[j]? = some b) (hij : i ≠ j) : a ≠ b := by
  intro e
  subst e
  obtain ⟨h1, e1⟩ := List.getElem?_eq_some_iff.1 hi
  obtain ⟨h2, e2⟩ := List.getElem?_eq_some_iff.1 hj
  have hp := List.pairwise_iff_getElem.1 h
  rcases Nat.lt_or_gt_of_ne hij with h3 | h3
  · exact hp i j h1 h2 h3 (e1.trans e2.symm)
  · exact hp j i h2 h1 h3 (e2.trans e1.symm)

/-- The blocks of a unit, apart. -/
theorem MOk.ne {fb : Nat} {w : World} {p : PU} {t : TU} {s : St} (U : MOk fb w (p, t, s)) (i j : Nat) {a b : Nat} (hi : (p.bl ++ [t.tn, t.iv])[i]? = some a) (hj : (p.bl ++ [t.tn, t.iv])[j]? = some b) (hij : i ≠ j) : a ≠ b := by
  have h : (p.bl ++ [t.tn, t.iv] ++ s.kp.toList).Nodup := U.apart
  exact nodup_ne (List.nodup_append.1 h).1 i j hi hj hij

theorem MOk.nk {fb : Nat} {w : World} {p : PU} {t : TU} {s : St} (U : MOk fb w (p, t, s)) {q : Nat} (hq : s.kp = some q) (j : Nat) {b : Nat} (hj : (p.bl ++ [t.tn, t.iv])[j]? = some b) : q ≠ b := by
  have h : (p.bl ++ [t.tn, t.iv] ++ s.kp.toList).Nodup := U.apart
  have h1 := (List.nodup_append.1 h).2.2
  have hb : b ∈ p.bl ++ [t.tn, t.iv] := List.mem_of_getElem? hj
  exact fun e => h1 b hb q (by simp [hq]) e.symm

theorem out_one {a b : Nat} (h : a ≠ b) : a ∉ [b] := by simpa using h
theorem out_two {a b c : Nat} (h : a ≠ b) (k : a ≠ c) : a ∉ [b, c] := by simpa using ⟨h, k⟩

theorem upU_self {U : Type} (f : Nat → U) (k : Nat) {s : U} (h : s = f k) : upU f k s = f := by
  subst h
  funext i
  unfold upU
  by_cases hi : i = k
  · rw [if_pos hi, hi]
  · rw [if_neg hi]

/-- What a Retry tells that has called its maker n times (and keeps something, or not). -/
def retV (m : Mk) (n : Nat) : Bool → Int
  | true => (m.out n).val
  | false => (m.out ((n : Int) + 1)).val
def retE (m : Mk) (n : Nat) : Bool → Int
  | true => 0
  | false => (m.out ((n : Int) + 1)).err
def retN (n : Nat) : Bool → Nat
  | true => n
  | false => n + 1
def retD (m : Mk) (n : Nat) (d : Bool) : Bool := d || (m.out ((n : Int) + 1)).well

section
variable {W : World} {tv tb fb n : Nat} {g cp : Nat → Nat} {gt ct : Nat} {ps : Nat → PU} {ts : Nat → TU} {ow : Nat → Nat} {w : World} {ss : Nat → St}

theorem Main.mine (h : Main W tv tb fb n g cp gt ct ps ts ow w ss) {k : Nat} (hk : k < n) {S : List Nat} (hS : ∀ b, b ∈ S → b ∈ mbl (ps k, ts k, ss k)) : (∀ b, b ∈ S → b < w.heap.size → W.heap.size ≤ b ∧ ow b = 100 + k) ∧ (∀ b, b ∈ S → b < w.heap.size) := by
  have L := (h.unit hk).2
  exact ⟨fun b hb _ => ⟨(L b (hS b hb)).1, (L b (hS b hb)).2.2⟩, fun b hb => (L b (hS b hb)).2.1⟩

theorem m_once (h : Main W tv tb fb n g cp gt ct ps ts ow w ss) {k : Nat} (hk : k < n) : Calls Try.prog 10 #[ptr (ps k).o, .pointer none] w fun e w' => e = .returned (.tuple #[.int .i64 ((ps k).m.out 1).val, .int .i64 ((ps k).m.out 1).err]) ∧ Main W tv tb fb n g cp gt ct ps ts ow w' (upU ss k { ss k with aO := true }) := by
  obtain ⟨U, L⟩ := h.unit hk
  cases ha : (ss k).aO with
  | false =>
    have ho := U.o
    have hx := U.x
    simp only [ha] at ho hx
    have hm := one_makes (ps k).bx (ps k).x (ps k).m 0 w [(ps k).o] U.bx hx (U.ne 3 0 rfl rfl (by decide)) (out_one (U.ne 3 4 rfl rfl (by decide))) (out_one (U.ne 0 4 rfl rfl (by decide))) (by omega) (by omega)
    refine (once_first (ps k).o (ps k).x _ _ _ _ w ho hm hx.lt (U.ne 0 4 rfl rfl (by decide))).mono ?_
    rintro e w' ⟨rfl, ho', hx', hO⟩
    refine ⟨rfl, ?_⟩
    have hS := h.mine hk (S := [(ps k).o, (ps k).x]) (by intro b hb; simp at hb; simp [mbl, PU.bl]; omega)
    exact h.set hO k hS.1 hS.2 (Ext.refl _ _) ⟨hx', U.bx.only hO (out_two (U.ne 3 4 rfl rfl (by decide)) (U.ne 3 0 rfl rfl (by decide))), ho', U.a.only hO (out_two (U.ne 7 4 rfl rfl (by decide)) (U.ne 7 0 rfl rfl (by decide))), U.y.only hO (out_two (U.ne 1 4 rfl rfl (by decide)) (U.ne 1 0 rfl rfl (by decide))), U.bY.only hO (out_two (U.ne 5 4 rfl rfl (by decide)) (U.ne 5 0 rfl rfl (by decide))), U.r.only hO (out_two (U.ne 6 4 rfl rfl (by decide)) (U.ne 6 0 rfl rfl (by decide))), fun q hq => (U.kept q hq).only hO (out_two (U.nk hq 4 rfl) (U.nk hq 0 rfl)), U.b.only hO (out_two (U.ne 8 4 rfl rfl (by decide)) (U.ne 8 0 rfl rfl (by decide))), U.z.only hO (out_two (U.ne 2 4 rfl rfl (by decide)) (U.ne 2 0 rfl rfl (by decide))), U.c.only hO (out_two (U.ne 9 4 rfl rfl (by decide)) (U.ne 9 0 rfl rfl (by decide))), U.tn.only hO (out_two (U.ne 10 4 rfl rfl (by decide)) (U.ne 10 0 rfl rfl (by decide))), U.iv.only hO (out_two (U.ne 11 4 rfl rfl (by decide)) (U.ne 11 0 rfl rfl (by decide))), U.apart⟩ (L.ext (Ext.refl _ _) hO.size)
  | true =>
    have ho := U.o
    simp only [ha] at ho
    refine (once_again (ps k).o _ _ _ _ w ho).mono ?_
    rintro e w' ⟨rfl, hO⟩
    have e1 : upU ss k { ss k with aO := true } = ss := upU_self ss k (by rw [← ha])
    exact ⟨rfl, by rw [e1]; exact h.junk hO⟩

theorem m_refA (h : Main W tv tb fb n g cp gt ct ps ts ow w ss) {k : Nat} (hk : k < n) : Calls Try.prog 11 #[ptr (ps k).a] w fun e w' => e = .returned (.tuple #[.int .i64 ((ps k).m.out 1).val, .int .i64 ((ps k).m.out 1).err]) ∧ Main W tv tb fb n g cp gt ct ps ts ow w' (upU ss k { ss k with aA := true }) := by
  obtain ⟨U, L⟩ := h.unit hk
  have hc := U.a
  cases ha : (ss k).aA with
  | false =>
    simp only [ha] at hc
    refine (ref_first _ _ w hc).mono ?_
    rintro e w' ⟨rfl, hc', hO⟩
    refine ⟨rfl, ?_⟩
    have hS := h.mine hk (S := [(ps k).a]) (by intro b hb; simp at hb; simp [mbl, PU.bl]; omega)
    exact h.set hO k hS.1 hS.2 (Ext.refl _ _) ⟨U.x.only hO (out_one (U.ne 0 7 rfl rfl (by decide))), U.bx.only hO (out_one (U.ne 3 7 rfl rfl (by decide))), U.o.only hO (out_one (U.ne 4 7 rfl rfl (by decide))), hc', U.y.only hO (out_one (U.ne 1 7 rfl rfl (by decide))), U.bY.only hO (out_one (U.ne 5 7 rfl rfl (by decide))), U.r.only hO (out_one (U.ne 6 7 rfl rfl (by decide))), fun q hq => (U.kept q hq).only hO (out_one (U.nk hq 7 rfl)), U.b.only hO (out_one (U.ne 8 7 rfl rfl (by decide))), U.z.only hO (out_one (U.ne 2 7 rfl rfl (by decide))), U.c.only hO (out_one (U.ne 9 7 rfl rfl (by decide))), U.tn.only hO (out_one (U.ne 10 7 rfl rfl (by decide))), U.iv.only hO (out_one (U.ne 11 7 rfl rfl (by decide))), U.apart⟩ (L.ext (Ext.refl _ _) hO.size)
  | true =>
    simp only [ha] at hc
    have e1 : upU ss k { ss k with aA := true } = ss := upU_self ss k (by rw [← ha])
    cases hw : ((ps k).m.out 1).well with
    | true =>
      unfold cellSt at hc
      rw [hw] at hc
      refine (ref_done _ _ _ _ _ _ _ w hc).mono ?_
      rintro e w' ⟨rfl, hO⟩
      exact ⟨by rw [Out.err_zero hw], by rw [e1]; exact h.junk hO⟩
    | false =>
      unfold cellSt at hc
      rw [hw] at hc
      refine (ref_asked _ _ _ _ _ w hc).mono ?_
      rintro e w' ⟨rfl, hO⟩
      exact ⟨rfl, by rw [e1]; exact h.junk hO⟩

theorem m_refC (h : Main W tv tb fb n g cp gt ct ps ts ow w ss) {k : Nat} (hk : k < n) : Calls Try.prog 11 #[ptr (ps k).c] w fun e w' => e = .returned (.tuple #[.int .i64 ((ps k).m.out 1).val, .int .i64 ((ps k).m.out 1).err]) ∧ Main W tv tb fb n g cp gt ct ps ts ow w' (upU ss k { ss k with aC := true }) := by
  obtain ⟨U, L⟩ := h.unit hk
  have hc := U.c
  cases ha : (ss k).aC with
  | false =>
    simp only [ha] at hc
    refine (ref_first _ _ w hc).mono ?_
    rintro e w' ⟨rfl, hc', hO⟩
    refine ⟨rfl, ?_⟩
    have hS := h.mine hk (S := [(ps k).c]) (by intro b hb; simp at hb; simp [mbl, PU.bl]; omega)
    exact h.set hO k hS.1 hS.2 (Ext.refl _ _) ⟨U.x.only hO (out_one (U.ne 0 9 rfl rfl (by decide))), U.bx.only hO (out_one (U.ne 3 9 rfl rfl (by decide))), U.o.only hO (out_one (U.ne 4 9 rfl rfl (by decide))), U.a.only hO (out_one (U.ne 7 9 rfl rfl (by decide))), U.y.only hO (out_one (U.ne 1 9 rfl rfl (by decide))), U.bY.only hO (out_one (U.ne 5 9 rfl rfl (by decide))), U.r.only hO (out_one (U.ne 6 9 rfl rfl (by decide))), fun q hq => (U.kept q hq).only hO (out_one (U.nk hq 9 rfl)), U.b.only hO (out_one (U.ne 8 9 rfl rfl (by decide))), U.z.only hO (out_one (U.ne 2 9 rfl rfl (by decide))), hc', U.tn.only hO (out_one (U.ne 10 9 rfl rfl (by decide))), U.iv.only hO (out_one (U.ne 11 9 rfl rfl (by decide))), U.apart⟩ (L.ext (Ext.refl _ _) hO.size)
  | true =>
    simp only [ha] at hc
    have e1 : upU ss k { ss k with aC := true } = ss := upU_self ss k (by rw [← ha])
    cases hw : ((ps k).m.out 1).well with
    | true =>
      unfold cellSt at hc
      rw [hw] at hc
      refine (ref_done _ _ _ _ _ _ _ w hc).mono ?_
      rintro e w' ⟨rfl, hO⟩
      exact ⟨by rw [Out.err_zero hw], by rw [e1]; exact h.junk hO⟩
    | false =>
      unfold cellSt at hc
      rw [hw] at hc
      refine (ref_asked _ _ _ _ _ w hc).mono ?_
      rintro e w' ⟨rfl, hO⟩
      exact ⟨rfl, by rw [e1]; exact h.junk hO⟩

theorem m_onceDone (h : Main W tv tb fb n g cp gt ct ps ts ow w ss) {k : Nat} (hk : k < n) : Calls Try.prog 14 #[ptr (ps k).o, .pointer none] w fun e w' => e = .returned (.bool ((ss k).aO && ((ps k).m.out 1).well)) ∧ w = w' := by
  obtain ⟨U, L⟩ := h.unit hk
  have ho := U.o
  cases ha : (ss k).aO with
  | false => simp only [ha] at ho; exact once_done _ _ _ _ _ _ _ w ho
  | true => simp only [ha] at ho; exact once_done _ _ _ _ _ _ _ w ho

theorem m_retryDone (h : Main W tv tb fb n g cp gt ct ps ts ow w ss) {k : Nat} (hk : k < n) : Calls Try.prog 15 #[ptr (ps k).r, .pointer none] w fun e w' => e = .returned (.bool (ss k).kp.isSome) ∧ w = w' := by
  obtain ⟨U, L⟩ := h.unit hk
  exact retry_done _ _ _ _ w U.r (fun q hq => ⟨_, _, U.kept q hq⟩)

theorem cast_succ (n : Nat) : ((n + 1 : Nat) : Int) = (n : Int) + 1 := by omega

theorem m_refB (h : Main W tv tb fb n g cp gt ct ps ts ow w ss) {k : Nat} (hk : k < n) (hn : (ss k).nB ≤ 1000) : Calls Try.prog 11 #[ptr (ps k).b] w fun e w' => e = .returned (.tuple #[.int .i64 (retV (ps k).m (ss k).nB (ss k).dB), .int .i64 (retE (ps k).m (ss k).nB (ss k).dB)]) ∧ Main W tv tb fb n g cp gt ct ps ts ow w' (upU ss k { ss k with nB := retN (ss k).nB (ss k).dB, dB := retD (ps k).m (ss k).nB (ss k).dB }) := by
  obtain ⟨U, L⟩ := h.unit hk
  have hb := U.b
  cases hd : (ss k).dB with
  | true =>
    simp only [hd] at hb
    refine (ref_done _ _ _ _ _ _ _ w hb).mono ?_
    rintro e w' ⟨rfl, hO⟩
    have e1 : upU ss k { ss k with nB := retN (ss k).nB true, dB := retD (ps k).m (ss k).nB true } = ss := upU_self ss k (show ({ ss k with nB := (ss k).nB, dB := true } : St) = ss k by rw [← hd])
    exact ⟨rfl, by rw [e1]; exact h.junk hO⟩
  | false =>
    simp only [hd] at hb
    refine (ref_try _ _ _ w hb (by omega) (by omega)).mono ?_
    rintro e w' ⟨rfl, hb', hO⟩
    have hb2 : Blk w' (ps k).b (bSt (ps k).m (retN (ss k).nB false) (retD (ps k).m (ss k).nB false)) 42 := by
      unfold retD retN
      cases hw : ((ps k).m.out ((ss k).nB + 1)).well with
      | true => rw [hw] at hb'; simpa [bSt, cast_succ] using hb'
      | false => rw [hw, (Out.err_pos hw).2] at hb'; simpa [bSt, cast_succ] using hb'
    refine ⟨rfl, ?_⟩
    have hS := h.mine hk (S := [(ps k).b]) (by intro b hb; simp at hb; simp [mbl, PU.bl]; omega)
    exact h.set hO k hS.1 hS.2 (Ext.refl _ _) ⟨U.x.only hO (out_one (U.ne 0 8 rfl rfl (by decide))), U.bx.only hO (out_one (U.ne 3 8 rfl rfl (by decide))), U.o.only hO (out_one (U.ne 4 8 rfl rfl (by decide))), U.a.only hO (out_one (U.ne 7 8 rfl rfl (by decide))), U.y.only hO (out_one (U.ne 1 8 rfl rfl (by decide))), U.bY.only hO (out_one (U.ne 5 8 rfl rfl (by decide))), U.r.only hO (out_one (U.ne 6 8 rfl rfl (by decide))), fun q hq => (U.kept q hq).only hO (out_one (U.nk hq 8 rfl)), hb2, U.z.only hO (out_one (U.ne 2 8 rfl rfl (by decide))), U.c.only hO (out_one (U.ne 9 8 rfl rfl (by decide))), U.tn.only hO (out_one (U.ne 10 8 rfl rfl (by decide))), U.iv.only hO (out_one (U.ne 11 8 rfl rfl (by decide))), U.apart⟩ (L.ext (Ext.refl _ _) hO.size)

/-- How a Retry's unit turns. -/
def RetryStep (W : World) (tv tb fb n : Nat) (g cp : Nat → Nat) (gt ct : Nat) (ps : Nat → PU) (ts : Nat → TU) (ss : Nat → St) (k : Nat) (e : Ending) (w' : World) : Prop :=
  ∃ (ow' : Nat → Nat) (kp' : Option Nat), e = .returned (.tuple #[.int .i64 (retV (ps k).m (ss k).n (ss k).kp.isSome), .int .i64 (retE (ps k).m (ss k).n (ss k).kp.isSome)]) ∧ kp'.isSome = retD (ps k).m (ss k).n (ss k).kp.isSome ∧ Main W tv tb fb n g cp gt ct ps ts ow' w' (upU ss k { ss k with n := retN (ss k).n (ss k).kp.isSome, kp := kp' })

theorem m_retry (h : Main W tv tb fb n g cp gt ct ps ts ow w ss) {k : Nat} (hk : k < n) (hn : (ss k).n ≤ 1000) : Calls Try.prog 12 #[ptr (ps k).r, .pointer none] w (RetryStep W tv tb fb n g cp gt ct ps ts ss k) := by
  obtain ⟨U, L⟩ := h.unit hk
  have hr := U.r
  cases hq : (ss k).kp with
  | some q =>
    simp only [hq] at hr
    refine (retry_kept _ q _ _ w hr (U.kept q hq)).mono ?_
    rintro e w' ⟨rfl, hO⟩
    have e1 : upU ss k { ss k with n := retN (ss k).n (ss k).kp.isSome, kp := some q } = ss := upU_self ss k (by rw [hq]; show ({ ss k with n := (ss k).n, kp := some q } : St) = ss k; rw [← hq])
    exact ⟨ow, some q, by rw [hq]; rfl, by rw [hq]; rfl, by rw [e1]; exact h.junk hO⟩
  | none =>
    simp only [hq] at hr
    have hm := one_makes (ps k).bY (ps k).y (ps k).m (ss k).n w [(ps k).r] U.bY U.y (U.ne 5 1 rfl rfl (by decide)) (out_one (U.ne 5 6 rfl rfl (by decide))) (out_one (U.ne 1 6 rfl rfl (by decide))) (by omega) (by omega)
    refine (retry_tries (ps k).r (ps k).y _ _ _ _ w hr hm U.y.lt (U.ne 1 6 rfl rfl (by decide))).mono ?_
    rintro e w' ⟨rfl, hy', hO, h0, h1⟩
    have hS := h.mine hk (S := [(ps k).r, (ps k).y]) (by intro b hb; simp at hb; simp [mbl, PU.bl]; omega)
    cases hw : ((ps k).m.out ((ss k).n + 1)).well with
    | false =>
      have hr' := h0 hw
      refine ⟨ow, none, by rw [hq]; rfl, by rw [hq]; simp [retD, hw], ?_⟩
      have hy2 : Blk w' (ps k).y (oneCells (ps k).m ((retN (ss k).n (ss k).kp.isSome : Nat) : Int)) 33 := by rw [hq]; simpa [retN, cast_succ] using hy'
      have L2 : At W.heap.size ow (100 + k) w (mbl (ps k, ts k, { ss k with n := retN (ss k).n (ss k).kp.isSome, kp := none })) := L.sub (fun b hb => by have hb2 : b ∈ ((ps k).bl ++ [(ts k).tn, (ts k).iv]) ++ [] := hb; rw [List.append_nil] at hb2; exact List.mem_append_left _ hb2)
      exact h.set hO k hS.1 hS.2 (Ext.refl _ _) ⟨U.x.only hO (out_two (U.ne 0 6 rfl rfl (by decide)) (U.ne 0 1 rfl rfl (by decide))), U.bx.only hO (out_two (U.ne 3 6 rfl rfl (by decide)) (U.ne 3 1 rfl rfl (by decide))), U.o.only hO (out_two (U.ne 4 6 rfl rfl (by decide)) (U.ne 4 1 rfl rfl (by decide))), U.a.only hO (out_two (U.ne 7 6 rfl rfl (by decide)) (U.ne 7 1 rfl rfl (by decide))), hy2, U.bY.only hO (out_two (U.ne 5 6 rfl rfl (by decide)) (U.ne 5 1 rfl rfl (by decide))), hr', (fun q hq => by cases hq), U.b.only hO (out_two (U.ne 8 6 rfl rfl (by decide)) (U.ne 8 1 rfl rfl (by decide))), U.z.only hO (out_two (U.ne 2 6 rfl rfl (by decide)) (U.ne 2 1 rfl rfl (by decide))), U.c.only hO (out_two (U.ne 9 6 rfl rfl (by decide)) (U.ne 9 1 rfl rfl (by decide))), U.tn.only hO (out_two (U.ne 10 6 rfl rfl (by decide)) (U.ne 10 1 rfl rfl (by decide))), U.iv.only hO (out_two (U.ne 11 6 rfl rfl (by decide)) (U.ne 11 1 rfl rfl (by decide))), (by have h2 : ((ps k).bl ++ [(ts k).tn, (ts k).iv] ++ (ss k).kp.toList).Nodup := U.apart; rw [hq] at h2; exact h2)⟩ (L2.ext (Ext.refl _ _) hO.size)
    | true =>
      obtain ⟨q, hql, hqB, hr'⟩ := h1 hw
      refine ⟨fresh ow w (100 + k), some q, by rw [hq]; rfl, by rw [hq]; simp [retD, hw], ?_⟩
      have hy2 : Blk w' (ps k).y (oneCells (ps k).m ((retN (ss k).n (ss k).kp.isSome : Nat) : Int)) 33 := by rw [hq]; simpa [retN, cast_succ] using hy'
      have hq2 : ∀ q', some q = some q' → Blk w' q' #[.int .i64 ((ps k).m.out ((retN (ss k).n (ss k).kp.isSome : Nat) : Int)).val, .int .i64 0] 74 := by
        intro q' e; cases e; rw [hq]; simpa [retN, cast_succ] using hqB
      have hE := Ext.fresh ow w (100 + k)
      have hlow := h.low
      have L1 := L.ext hE hO.size
      have L2 : At W.heap.size (fresh ow w (100 + k)) (100 + k) w' (mbl (ps k, ts k, { ss k with n := retN (ss k).n (ss k).kp.isSome, kp := some q })) := by
        intro b hb
        have hb' : b ∈ mbl (ps k, ts k, ss k) ∨ b = q := by
          have hb2 : b ∈ ((ps k).bl ++ [(ts k).tn, (ts k).iv]) ++ [q] := hb
          rcases List.mem_append.1 hb2 with h2 | h2
          · exact Or.inl (List.mem_append_left _ h2)
          · exact Or.inr (by simpa using h2)
        rcases hb' with hb' | rfl
        · exact L1 b hb'
        · exact ⟨by omega, hqB.lt, fresh_new hql⟩
      have hap : (mbl (ps k, ts k, { ss k with n := retN (ss k).n (ss k).kp.isSome, kp := some q })).Nodup := by
        have h2 : ((ps k).bl ++ [(ts k).tn, (ts k).iv] ++ (ss k).kp.toList).Nodup := U.apart
        rw [hq] at h2
        show ((ps k).bl ++ [(ts k).tn, (ts k).iv] ++ [q]).Nodup
        rw [List.nodup_append]
        refine ⟨by simpa using h2, by simp, fun b hb c hc e => ?_⟩
        simp at hc
        subst hc
        have := (L b (List.mem_append_left _ hb)).2.1
        omega
      exact h.set hO k hS.1 hS.2 hE ⟨U.x.only hO (out_two (U.ne 0 6 rfl rfl (by decide)) (U.ne 0 1 rfl rfl (by decide))), U.bx.only hO (out_two (U.ne 3 6 rfl rfl (by decide)) (U.ne 3 1 rfl rfl (by decide))), U.o.only hO (out_two (U.ne 4 6 rfl rfl (by decide)) (U.ne 4 1 rfl rfl (by decide))), U.a.only hO (out_two (U.ne 7 6 rfl rfl (by decide)) (U.ne 7 1 rfl rfl (by decide))), hy2, U.bY.only hO (out_two (U.ne 5 6 rfl rfl (by decide)) (U.ne 5 1 rfl rfl (by decide))), hr', hq2, U.b.only hO (out_two (U.ne 8 6 rfl rfl (by decide)) (U.ne 8 1 rfl rfl (by decide))), U.z.only hO (out_two (U.ne 2 6 rfl rfl (by decide)) (U.ne 2 1 rfl rfl (by decide))), U.c.only hO (out_two (U.ne 9 6 rfl rfl (by decide)) (U.ne 9 1 rfl rfl (by decide))), U.tn.only hO (out_two (U.ne 10 6 rfl rfl (by decide)) (U.ne 10 1 rfl rfl (by decide))), U.iv.only hO (out_two (U.ne 11 6 rfl rfl (by decide)) (U.ne 11 1 rfl rfl (by decide))), hap⟩ L2
end

end Go.Proofs.Ytbcdkcepgbegjaa
