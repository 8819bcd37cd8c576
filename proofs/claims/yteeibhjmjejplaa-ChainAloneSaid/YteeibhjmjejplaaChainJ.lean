/- What stands in the statement's loop: the chain's state, the other chain, the list of versions. Laws only: no program steps. -/
import Derived.Test.YteeibhjmjejplaaChainI
namespace Go.Proofs.Yteeibhjmjejplaa
open Go.RowKit

theorem row_set {w : World} {base sz : Nat} {e : TypeId} {g n cap : Nat} {xs : List Value} (h : w.ownsRow base e sz (.slice (some ⟨g, 0, none⟩) n cap) n xs) (j : Nat) (u : Value) :
    (w.setCell ⟨g, j, none⟩ u).ownsRow base e sz (.slice (some ⟨g, 0, none⟩) n cap) n (xs.set j u) := by
  obtain ⟨hl, h⟩ := h
  refine ⟨by simpa using hl, ?_⟩
  rcases h with ⟨h, _⟩ | ⟨g', cap', cur, hv, hg, hb, hnc, hm, hs, ht⟩
  · cases h
  · cases hv
    refine Or.inr ⟨g, cap, cur.setIfInBounds j u, rfl, hg, ?_, hnc, hm, by simpa using hs, ?_⟩
    · exact (show Blk w g cur e from hb).set_same j u
    · rw [← ht]
      simp [List.take_set]

theorem row_take {w : World} {base sz : Nat} {e : TypeId} {g n cap : Nat} {xs : List Value} (h : w.ownsRow base e sz (.slice (some ⟨g, 0, none⟩) n cap) n xs) (m : Nat) (hm : m ≤ n) :
    w.ownsRow base e sz (.slice (some ⟨g, 0, none⟩) m cap) m (xs.take (m * sz)) := by
  obtain ⟨hl, h⟩ := h
  have hle : m * sz ≤ n * sz := Nat.mul_le_mul_right _ hm
  refine ⟨by rw [List.length_take, hl]; omega, ?_⟩
  rcases h with ⟨h, _⟩ | ⟨g', cap', cur, hv, hg, hb, hnc, hm', hs, ht⟩
  · cases h
  · cases hv
    refine Or.inr ⟨g, cap, cur, rfl, hg, hb, by omega, hm', hs, ?_⟩
    rw [← ht, List.take_take, Nat.min_eq_left hle]

def vcell (S : Nat → Sl) (sv : Nat → Value) (i : Nat) : List Value := [.int .i64 (wd i (S i).gen), .int .i64 (S i).a, .int .i64 (S i).mark, sv i]
def vcs (S : Nat → Sl) (sv : Nat → Value) (L : List Nat) : List Value := L.flatMap (vcell S sv)

theorem vcs_length (S : Nat → Sl) (sv : Nat → Value) : ∀ L, (vcs S sv L).length = L.length * 4
  | [] => rfl
  | i :: r => by
    have := vcs_length S sv r
    show (vcell S sv i ++ vcs S sv r).length = _
    rw [List.length_append, this]
    simp [vcell]
    omega

theorem vcs_get (S : Nat → Sl) (sv : Nat → Value) : ∀ (L : List Nat) (k i c : Nat), L[k]? = some i → c < 4 → (vcs S sv L)[k * 4 + c]? = (vcell S sv i)[c]?
  | [], k, i, c, h, _ => by simp at h
  | a :: r, 0, i, c, h, hc => by
    simp at h; subst h
    show (vcell S sv a ++ vcs S sv r)[_]? = _
    rw [List.getElem?_append_left (by simp [vcell]; omega)]
    simp
  | a :: r, k + 1, i, c, h, hc => by
    show (vcell S sv a ++ vcs S sv r)[_]? = _
    rw [List.getElem?_append_right (by simp [vcell]; omega)]
    rw [← vcs_get S sv r k i c (by simpa using h) hc]
    congr 1
    simp [vcell]
    omega

theorem vcs_congr {S S' : Nat → Sl} {sv sv' : Nat → Value} {L : List Nat} (h : ∀ i, i ∈ L → vcell S sv i = vcell S' sv' i) : vcs S sv L = vcs S' sv' L := by
  induction L with
  | nil => rfl
  | cons a r ih =>
    show vcell S sv a ++ vcs S sv r = vcell S' sv' a ++ vcs S' sv' r
    rw [h a (by simp), ih (fun i hi => h i (by simp [hi]))]

theorem vcs_cut (S S' : Nat → Sl) (sv : Nat → Value) (v : Value) (hS : ∀ i, (S' i).gen = (S i).gen ∧ (S' i).a = (S i).a ∧ (S' i).mark = (S i).mark) : ∀ (L : List Nat) (k i : Nat), L.Nodup → L[k]? = some i →
    ((vcs S sv L).set (k * 4 + 3) v).take ((k + 1) * 4) = vcs S' (fun j => if j = i then v else sv j) (L.take (k + 1))
  | [], k, i, _, h => by simp at h
  | a :: r, 0, i, hn, h => by
    simp at h; subst h
    obtain ⟨h1, h2, h3⟩ := hS a
    show ((vcell S sv a ++ vcs S sv r).set 3 v).take 4 = vcell S' (fun j => if j = a then v else sv j) a ++ []
    simp [vcell, h1, h2, h3]
  | a :: r, k + 1, i, hn, h => by
    have hr : r[k]? = some i := by simpa using h
    have hai : a ≠ i := fun e => (List.nodup_cons.1 hn).1 (e ▸ List.mem_of_getElem? hr)
    have ih := vcs_cut S S' sv v hS r k i (List.nodup_cons.1 hn).2 hr
    obtain ⟨h1, h2, h3⟩ := hS a
    show ((vcell S sv a ++ vcs S sv r).set ((k + 1) * 4 + 3) v).take ((k + 1 + 1) * 4) = vcell S' (fun j => if j = i then v else sv j) a ++ vcs S' (fun j => if j = i then v else sv j) (r.take (k + 1))
    rw [← ih, List.set_append_right _ _ (by simp [vcell]; omega), show (k + 1) * 4 + 3 - (vcell S sv a).length = k * 4 + 3 by simp [vcell]; omega, show (k + 1 + 1) * 4 = (vcell S sv a).length + (k + 1) * 4 by simp [vcell]; omega, List.take_length_add_append]
    congr 1
    simp [vcell, h1, h2, h3, hai]

/-- What is read lies below, or there is nothing to read. -/
theorem Reads.low {S : List Nat} {w w' : World} {v : Value} {xs : List Int} (h : Reads w v xs) (o : Only S w w') {ws : Nat} (hb : xs = [] ∨ ∀ k, k ∈ blockOf v → k < ws) (hS : ∀ k, k ∈ S → ws ≤ k) : Reads w' v xs := by
  rcases hb with rfl | hb
  · obtain ⟨ad, cap, hv, _⟩ := h
    exact ⟨ad, cap, hv, .inl rfl⟩
  · exact h.only o (fun k hk hm => by have := hb k hk; have := hS k hm; omega)

structure Mn (wr : World) (A : PA) (X Y : CA) (cb cq n : Nat) (S : Nat → Sl) (t : Int) (fs : List Nat) (now : Int) (ls : List Int) (Z : Nat → Ent) (L : List Nat) (base m ws : Nat) (lv : Value) (sv : Nat → Value) (u : Nat) : Prop where
  ch : Ch wr A X cb cq n S t fs now ls Z L base m
  oth : ∃ ZY, ChainAt wr Y A cb n 0 ZY
  ylow : ∀ k, k ∈ Y.all → k < base ∧ k ∉ A.all ∧ k ∉ X.all ∧ k ≠ cb ∧ k ≠ cq
  own : wr.ownsRow base 42 4 lv L.length (vcs S sv L)
  apart : ∀ k, lv.ownBlock = some k → ∀ i, i ∈ L → k ∉ blockOf (Z i).v
  svs : ∀ i, i ∈ L → Reads wr (sv i) (Z i).l ∧ ((Z i).l = [] ∨ ∀ k, k ∈ blockOf (sv i) → k < ws)
  new : (∀ k, k ∈ A.all → ws ≤ k) ∧ (∀ k, k ∈ X.all → ws ≤ k) ∧ ws ≤ cb ∧ ws ≤ cq ∧ ws ≤ base
  used : fs.length + u = n
  ne : L ≠ []
  lu : L.length ≤ u

section
variable {wr w' : World} {A : PA} {X Y : CA} {cb cq n : Nat} {S : Nat → Sl} {t : Int} {fs : List Nat} {now : Int} {ls : List Int} {Z : Nat → Ent} {L : List Nat} {base m ws : Nat} {lv : Value} {sv : Nat → Value} {u : Nat}

/-- A step that turns blocks of others alone. -/
theorem Mn.off (M : Mn wr A X Y cb cq n S t fs now ls Z L base m ws lv sv u) {T : List Nat} (o : Only T wr w') (hT : ∀ k, k ∈ T → base ≤ k ∧ (∀ i, i ∈ L → k ∉ blockOf (Z i).v) ∧ lv.ownBlock ≠ some k) : Mn w' A X Y cb cq n S t fs now ls Z L base m ws lv sv u := by
  obtain ⟨ZY, hY⟩ := M.oth
  exact { M with
    ch := M.ch.only o fun k hk => ⟨(hT k hk).1, (hT k hk).2.1⟩
    oth := ⟨ZY, hY.only o fun k hk hm => by have := (hT k hm).1; have := (M.ylow k hk).1; omega⟩
    own := own_only M.own o fun k hk hm => (hT k hm).2.2 hk
    svs := fun i hi => ⟨(M.svs i hi).1.low o (M.svs i hi).2 (fun k hk => by have := (hT k hk).1; have := M.new.2.2.2.2; omega), (M.svs i hi).2⟩ }

theorem Mn.plain (M : Mn wr A X Y cb cq n S t fs now ls Z L base m ws lv sv u) (o : Only [] wr w') : Mn w' A X Y cb cq n S t fs now ls Z L base m ws lv sv u := M.off o (by simp)

theorem Mn.later (M : Mn wr A X Y cb cq n S t fs now ls Z L base m ws lv sv u) {m' : Nat} (h : m ≤ m') (h2 : m' ≤ 1000) : Mn wr A X Y cb cq n S t fs now ls Z L base m' ws lv sv u := { M with ch := M.ch.later h h2 }

/-- The list's cells. -/
theorem Mn.at (M : Mn wr A X Y cb cq n S t fs now ls Z L base m ws lv sv u) : ∃ g cap, lv = .slice (some ⟨g, 0, none⟩) L.length cap ∧ base ≤ g ∧ g < wr.heap.size ∧ L.length ≤ cap ∧ (∀ j, wr.frozen? ⟨g, j, none⟩ = false) ∧
    (∀ k i c x, L[k]? = some i → c < 4 → (vcell S sv i)[c]? = some x → wr.cell? ⟨g, k * 4 + c, none⟩ = some x) := by
  have hlen : 0 < L.length := List.length_pos_iff.2 M.ne
  have hlt := M.own.lt
  rcases M.own.2 with ⟨hv, h0⟩ | ⟨g, cap, cur, hv, hg, hb, hnc, hm, hs, ht⟩
  · omega
  · refine ⟨g, cap, hv, hg, (hlt g (by rw [hv]; rfl)).2, hnc, fun j => Blk.free (show Blk wr g cur _ from hb) j, fun k i c x hk hc hx => ?_⟩
    have := M.own.cells (g := g) (by rw [hv]; rfl) (k * 4 + c) x (by rw [vcs_get S sv L k i c hk hc]; exact hx)
    rwa [Addr.add_lit, Nat.zero_add] at this

/-- Calls that wrote into pool, chain and clock. -/
theorem Mn.turned (M : Mn wr A X Y cb cq n S t fs now ls Z L base m ws lv sv u) {T : List Nat} (o : Only T wr w') (hT : ∀ k, k ∈ T → k ∈ A.all ∨ k ∈ X.all ∨ k = cb ∨ k = cq)
    {S' : Nat → Sl} {t' : Int} {fs' : List Nat} {now' : Int} {ls' : List Int} {Z' : Nat → Ent} {m' : Nat} (C : Ch w' A X cb cq n S' t' fs' now' ls' Z' L base m') (hS : ∀ i, i ∈ L → S' i = S i) (hZ : ∀ i, i ∈ L → Z' i = Z i) (hf : fs'.length = fs.length) : Mn w' A X Y cb cq n S' t' fs' now' ls' Z' L base m' ws lv sv u := by
  obtain ⟨ZY, hY⟩ := M.oth
  have hlow := M.ch.low
  have hnew := M.new
  have hTb : ∀ k, k ∈ T → k < base ∧ ws ≤ k := fun k hk => by
    rcases hT k hk with h | h | h | h
    · exact ⟨hlow.1 k h, hnew.1 k h⟩
    · exact ⟨hlow.2.1 k h, hnew.2.1 k h⟩
    · subst h; exact ⟨hlow.2.2.1, hnew.2.2.1⟩
    · subst h; exact ⟨hlow.2.2.2, hnew.2.2.2.1⟩
  exact {
    ch := C
    oth := ⟨ZY, hY.only o fun k hk hm => by
      have := M.ylow k hk
      rcases hT k hm with h | h | h | h
      · exact this.2.1 h
      · exact this.2.2.1 h
      · exact this.2.2.2.1 h
      · exact this.2.2.2.2 h⟩
    ylow := M.ylow
    own := by
      rw [vcs_congr (S := S') (sv := sv) (S' := S) (sv' := sv) (fun i hi => by unfold vcell; rw [hS i hi])]
      exact own_only M.own o fun k hk hm => by have := (M.own.lt k hk).1; have := (hTb k hm).1; omega
    apart := fun k hk i hi => by rw [hZ i hi]; exact M.apart k hk i hi
    svs := fun i hi => by rw [hZ i hi]; exact ⟨(M.svs i hi).1.low o (M.svs i hi).2 (fun k hk => (hTb k hk).2), (M.svs i hi).2⟩
    new := M.new
    used := by rw [hf]; exact M.used
    ne := M.ne
    lu := M.lu }

/-- A version more: the call has been made, and the list has been appended to. -/
theorem Mn.push {T : List Nat} {i : Nat} {r : List Nat} {w1 w2 w3 : World} (M : Mn wr A X Y cb cq n S t (i :: r) now ls Z L base m ws lv sv u) (o : Only (A.all ++ X.all) wr w1) {a b c d hd : Int} {v' vs : Value} {xs : List Int}
    (C : Ch w1 A X cb cq n (upS S i ⟨(S i).gen + 1, now, hd, a, b, c, d⟩) (t + 1) r now ls (upE Z i ⟨wd i ((S i).gen + 1), v', xs⟩) (i :: L) base (m + 1))
    (o2 : Only T w1 w2) (hT : ∀ k, k ∈ T → base ≤ k ∧ (∀ j, j ∈ i :: L → k ∉ blockOf (upE Z i ⟨wd i ((S i).gen + 1), v', xs⟩ j).v)) (o3 : Only [] w2 w3) {lv' : Value}
    (hown : w3.ownsRow w2.heap.size 42 4 lv' (1 + L.length) ([.int .i64 (wd i ((S i).gen + 1)), .int .i64 a, .int .i64 now, vs] ++ vcs S sv L)) (R : Reads wr vs xs) (hR : xs = [] ∨ ∀ k, k ∈ blockOf vs → k < ws) :
    Mn w3 A X Y cb cq n (upS S i ⟨(S i).gen + 1, now, hd, a, b, c, d⟩) (t + 1) r now ls (upE Z i ⟨wd i ((S i).gen + 1), v', xs⟩) (i :: L) base (m + 1) ws lv' (fun j => if j = i then vs else sv j) (u + 1) := by
  obtain ⟨ZY, hY⟩ := M.oth
  have hlow := M.ch.low
  have hnew := M.new
  have hf := M.ch.free i (by simp)
  have hne : ∀ j, j ∈ L → j ≠ i := fun j hj e => hf.1 (e ▸ hj)
  have hTb : ∀ k, k ∈ A.all ++ X.all → k < base ∧ ws ≤ k := fun k hk => by
    rcases List.mem_append.1 hk with h | h
    · exact ⟨hlow.1 k h, hnew.1 k h⟩
    · exact ⟨hlow.2.1 k h, hnew.2.1 k h⟩
  have C2 := C.only o2 hT
  have C3 := C2.plain o3
  have hrd : ∀ (v : Value) (l : List Int), Reads wr v l → (l = [] ∨ ∀ k, k ∈ blockOf v → k < ws) → Reads w3 v l := fun v l h hb =>
    ((h.low o hb (fun k hk => (hTb k hk).2)).low o2 hb (fun k hk => by have := (hT k hk).1; have := hnew.2.2.2.2; omega)).only o3 (by simp)
  exact {
    ch := C3
    oth := ⟨ZY, ((hY.only o (fun k hk hm => by
      have := M.ylow k hk
      rcases List.mem_append.1 hm with h | h
      · exact this.2.1 h
      · exact this.2.2.1 h)).only o2 (fun k hk hm => by have := (hT k hm).1; have := (M.ylow k hk).1; omega)).only o3 (by simp)⟩
    ylow := M.ylow
    own := by
      have e : vcs (upS S i ⟨(S i).gen + 1, now, hd, a, b, c, d⟩) (fun j => if j = i then vs else sv j) (i :: L) = [.int .i64 (wd i ((S i).gen + 1)), .int .i64 a, .int .i64 now, vs] ++ vcs S sv L := by
        show vcell _ _ i ++ vcs _ _ L = _
        congr 1
        · simp [vcell, upS_same]
        · refine vcs_congr fun j hj => ?_
          unfold vcell
          rw [upS_other S _ (hne j hj)]
          simp only [if_neg (hne j hj)]
      rw [e, List.length_cons, Nat.add_comm]
      exact hown.mono C2.high
    apart := fun k hk j hj hm => by
      have h1 := (hown.lt k hk).1
      have h2 := ((C2.ent j hj).2.2.2 k hm).2
      omega
    svs := fun j hj => by
      by_cases hji : j = i
      · subst hji
        rw [upE_same]
        simp only [if_true]
        exact ⟨hrd _ _ R hR, hR⟩
      · have hjL : j ∈ L := by rcases List.mem_cons.1 hj with h | h; exact absurd h hji; exact h
        rw [upE_other Z _ hji]
        simp only [if_neg hji]
        exact ⟨hrd _ _ (M.svs j hjL).1 (M.svs j hjL).2, (M.svs j hjL).2⟩
    new := M.new
    used := by have := M.used; simp at this; omega
    ne := by simp
    lu := by have := M.lu; simp; omega }

/-- Versions fewer: the call has been made, what it told written over, the list turned. -/
theorem Mn.cut {k i : Nat} {w1 w2 : World} (M : Mn wr A X Y cb cq n S t fs now ls Z L base m ws lv sv u) (hk : L[k]? = some i) (o : Only (A.all ++ X.all) wr w1)
    (C : Ch w1 A X cb cq n (upS S i { S i with link := 0 }) t fs now ls (upE Z i ⟨wd i (S i).gen, .slice none 0 0, []⟩) (L.take (k + 1)) base m)
    (o2 : Only (blockOf (Z i).v) w1 w2) {g cap : Nat} (hlv : lv = .slice (some ⟨g, 0, none⟩) L.length cap) :
    Mn (w2.setCell ⟨g, k * 4 + 3, none⟩ (.slice none 0 0)) A X Y cb cq n (upS S i { S i with link := 0 }) t fs now ls (upE Z i ⟨wd i (S i).gen, .slice none 0 0, []⟩) (L.take (k + 1)) base m ws (.slice (some ⟨g, 0, none⟩) (k + 1) cap) (fun j => if j = i then .slice none 0 0 else sv j) u := by
  obtain ⟨ZY, hY⟩ := M.oth
  have hlow := M.ch.low
  have hnew := M.new
  have hi : i ∈ L := List.mem_of_getElem? hk
  have hkl : k < L.length := (List.getElem?_eq_some_iff.1 hk).1
  have hsub : ∀ x, x ∈ L.take (k + 1) → x ∈ L := fun x hx => List.mem_of_mem_take hx
  have hTb : ∀ k, k ∈ A.all ++ X.all → k < base ∧ ws ≤ k := fun k hk => by
    rcases List.mem_append.1 hk with h | h
    · exact ⟨hlow.1 k h, hnew.1 k h⟩
    · exact ⟨hlow.2.1 k h, hnew.2.1 k h⟩
  have hgb : lv.ownBlock = some g := by rw [hlv]; rfl
  have hgl := (M.own.lt g hgb).1
  have hent := M.ch.ent i hi
  have hB : ∀ q, q ∈ blockOf (Z i).v → base ≤ q := fun q hq => (hent.2.2.2 q hq).1
  have hgB : g ∉ blockOf (Z i).v := M.apart g hgb i hi
  have hoth : ∀ q, q ∈ blockOf (Z i).v → ∀ x, x ∈ L.take (k + 1) → q ∉ blockOf (upE Z i ⟨wd i (S i).gen, .slice none 0 0, []⟩ x).v := fun q hq x hx hm => by
    by_cases hxi : x = i
    · subst hxi; rw [upE_same] at hm; simp [blockOf] at hm
    · rw [upE_other Z _ hxi] at hm
      exact M.ch.each x i (hsub x hx) hi hxi q hm hq
  have C2 := C.only o2 fun q hq => ⟨hB q hq, hoth q hq⟩
  have o3 : Only [g] w2 (w2.setCell ⟨g, k * 4 + 3, none⟩ (.slice none 0 0)) := Only.setCell _ (by simp) _
  have hgx : ∀ x, x ∈ L.take (k + 1) → g ∉ blockOf (upE Z i ⟨wd i (S i).gen, .slice none 0 0, []⟩ x).v := fun x hx hm => by
    by_cases hxi : x = i
    · subst hxi; rw [upE_same] at hm; simp [blockOf] at hm
    · rw [upE_other Z _ hxi] at hm
      exact M.apart g hgb x (hsub x hx) hm
  have C3 := C2.only o3 fun q hq => by simp at hq; subst hq; exact ⟨hgl, hgx⟩
  have hrd : ∀ (v : Value) (l : List Int), Reads wr v l → (l = [] ∨ ∀ k, k ∈ blockOf v → k < ws) → Reads (w2.setCell ⟨g, k * 4 + 3, none⟩ (.slice none 0 0)) v l := fun v l h hb =>
    ((h.low o hb (fun k hk => (hTb k hk).2)).low o2 hb (fun k hk => by have := hB k hk; have := hnew.2.2.2.2; omega)).low o3 hb (fun k hk => by simp at hk; have := hnew.2.2.2.2; omega)
  have hown2 := own_only (own_only M.own o (fun q hq hm => by have := (M.own.lt q hq).1; have := (hTb q hm).1; omega)) o2 (fun q hq hm => by rw [hgb] at hq; cases hq; exact hgB hm)
  rw [hlv] at hown2
  have hown3 := row_take (row_set hown2 (k * 4 + 3) (.slice none 0 0)) (k + 1) (by omega)
  rw [vcs_cut S (upS S i { S i with link := 0 }) sv _ (fun x => by
    by_cases hx : x = i
    · subst hx; rw [upS_same]; exact ⟨rfl, rfl, rfl⟩
    · rw [upS_other S _ hx]; exact ⟨rfl, rfl, rfl⟩) L k i M.ch.vers.once hk] at hown3
  have hlt : (L.take (k + 1)).length = k + 1 := by rw [List.length_take]; omega
  exact {
    ch := C3
    oth := ⟨ZY, ((hY.only o (fun k hk hm => by
      have := M.ylow k hk
      rcases List.mem_append.1 hm with h | h
      · exact this.2.1 h
      · exact this.2.2.1 h)).only o2 (fun k hk hm => by have := hB k hm; have := (M.ylow k hk).1; omega)).only o3 (fun k hk hm => by simp at hm; have := (M.ylow k hk).1; omega)⟩
    ylow := M.ylow
    own := by rw [hlt]; exact hown3
    apart := fun q hq x hx => by
      simp [Value.ownBlock] at hq
      subst hq
      exact hgx x hx
    svs := fun x hx => by
      by_cases hxi : x = i
      · subst hxi
        rw [upE_same]
        simp only [if_true]
        exact ⟨Reads.nil _, Or.inl trivial⟩
      · rw [upE_other Z _ hxi]
        simp only [if_neg hxi]
        exact ⟨hrd _ _ (M.svs x (hsub x hx)).1 (M.svs x (hsub x hx)).2, (M.svs x (hsub x hx)).2⟩
    new := M.new
    used := M.used
    ne := fun h => by have := congrArg List.length h; rw [hlt] at this; simp at this
    lu := by rw [hlt]; have := M.lu; omega }
end

end Go.Proofs.Yteeibhjmjejplaa
