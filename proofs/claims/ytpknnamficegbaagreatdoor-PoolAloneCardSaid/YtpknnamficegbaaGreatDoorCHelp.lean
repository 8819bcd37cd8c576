/- General laws on rows and cells. Each law names its conditions. -/
import Derived.Test.YtpknnamficegbaaGreatDoorCPlaces
set_option linter.unusedVariables false
set_option linter.unusedSimpArgs false
set_option linter.unusedSectionVars false
set_option linter.unnecessarySimpa false
namespace Go.Proofs.YtpknnamficegbaaGreatDoor
open Go.RowKit

theorem ownsRow_only {L : List Nat} {w w' : World} {base : Nat} {e : TypeId} {size : Nat} {v : Value} {n : Nat} {xs : List Value} (h : w.ownsRow base e size v n xs) (o : Only L w w') (hn : ∀ b, v.ownBlock = some b → b ∉ L) : w'.ownsRow base e size v n xs := by
  refine ⟨h.1, ?_⟩
  rcases h.2 with h1 | ⟨g, cap, cur, hv, hg, hb, hr⟩
  · exact Or.inl h1
  · exact Or.inr ⟨g, cap, cur, hv, hg, Blk.only hb o (hn g (by rw [hv]; simp [Value.ownBlock])), hr⟩

theorem own_slice_any {w : World} {base size : Nat} {e : TypeId} {v : Value} {n : Nat} {xs : List Value} (h : w.ownsRow base e size v n xs) : ∃ ad cap, v = .slice ad n cap := by
  rcases h.2 with ⟨rfl, h1⟩ | ⟨g, cap, _, rfl, _⟩
  · exact ⟨_, _, by rw [h1]⟩
  · exact ⟨_, _, rfl⟩

theorem keep_cell {w w' : World} {a : Addr} {v : Value} (o : Only [] w w') (h : w.cell? a = some v) : w'.cell? a = some v := (o.cell (by
  unfold World.cell? at h
  split at h
  · rename_i c e fr hb
    exact (Array.getElem?_eq_some_iff.1 hb).1
  · cases h) (by simp)).trans h

theorem keep_off {S : List Nat} {w w' : World} {b o : Nat} {v : Value} (h : Only S w w') (hb : b ∉ S) (hc : w.cell? ⟨b, o, none⟩ = some v) : w'.cell? ⟨b, o, none⟩ = some v := by
  have hl : b < w.heap.size := by
    rcases Nat.lt_or_ge b w.heap.size with hl | hl
    · exact hl
    · simp [World.cell?, Array.getElem?_eq_none hl] at hc
  exact (h.cell (p := ⟨b, o, none⟩) hl hb).trans hc

/-- append to a row of the call's own, whatever the source's address. -/
theorem wpList_append_any {P : Program} {w : World} {ops : Array Oper} {rest : List Oper} {o : Oper} {a : Act} {Q : Exit → Act → World → Prop} (hgd : o.guard = none) (s x : Operand) (t : TypeId)
    (ho : o.op = .call { callee := .builtin .append, args := #[s, x], argTypes := #[t, t] })
    (base : Nat) (e : TypeId) (i : TypeInfo) (z : Value) (size bytes : Nat) (ht : P.underlying t = some (.slice e)) (hi : P.info? e = some i) (hz : i.zero = some z)
    (hsize : i.size = size) (hby : i.bytes = bytes) (hzs : z.cells.size = size) (hsz : 0 < size)
    (v : Value) (n : Nat) (xs : List Value) (hs : a.eval s = v) (hown : w.ownsRow base e size v n xs)
    (ao : Option Addr) (m c : Nat) (news : List Value) (hx : a.eval x = .slice ao m c) (hl : news.length = m * size) (hnone : ao = none → m = 0 ∧ c = 0) (hnews : ∀ ad, ao = some ad → ∀ j u, news[j]? = some u → w.cell? (ad.add j) = some u) (h1 : ∀ u ∈ news, u.oneCell' = true)
    (h63 : n + m ≤ maxLen) (hbytes : (n + m) * bytes ≤ 140737488355328) (hbase : base ≤ w.heap.size)
    (h : ∀ v' w', w'.ownsRow base e size v' (n + m) (xs ++ news) → Only v.ownBlock.toList w w' → (∀ b, v'.ownBlock = some b → v.ownBlock = some b ∨ w.heap.size ≤ b) → wpList P ops Q rest (a.put o.dst v') w') :
    wpList P ops Q (o :: rest) a w := by
  cases ao with
  | some ad =>
    refine wpList_append_own_at w hgd s x t ho base e i z size bytes ht hi hz hsize hby hzs hsz v n xs hs hown ad m c news hx hl (hnews ad rfl) h1 h63 hbytes hbase ?_
    intro v' w' h2 h3 _ h5
    refine h v' w' h2 (Only.of_grown h3 (by intro k hk; simp [hk])) (fun b hb => ?_)
    rcases h5 with h5 | h5
    · exact Or.inl (by rw [← h5]; exact hb)
    · right; rw [h5] at hb; simp at hb; omega
  | none =>
    obtain ⟨rfl, rfl⟩ := hnone rfl
    have hn : news = [] := List.eq_nil_of_length_eq_zero (by simpa using hl)
    subst hn
    refine wpList_plain hgd fun K hK => ?_
    have hrun := run_append_owned_none (P := P) (w := w) base t o.type e i size ht hi v n xs hown
    unfold Oper.wp
    simp [execOp, ho, resolve, invoke, builtin, hs, hx, hrun, Result.andThen]
    exact hK _ _ (h v w (by simpa using hown) (Only.refl _ _) (fun b hb => Or.inl hb))

/-- A row of numbers in memory. -/
structure IntRow (w : World) (ad : Option Addr) (g cap : Nat) (L : List Int) : Prop where
  ad : L ≠ [] → ad = some ⟨g, 0, none⟩
  fits : L.length ≤ cap
  cells : ∀ (j : Nat) (k : Int), L[j]? = some k → w.cell? ⟨g, j, none⟩ = some (.int .i64 k)
  lt : L ≠ [] → g < w.heap.size

theorem IntRow.only {X : List Nat} {w w' : World} {ad : Option Addr} {g cap : Nat} {L : List Int} (h : IntRow w ad g cap L) (o : Only X w w') (hX : L ≠ [] → g ∉ X) : IntRow w' ad g cap L := by
  refine ⟨h.ad, h.fits, fun j k hk => ?_, fun e => Nat.lt_of_lt_of_le (h.lt e) o.size⟩
  have hne : L ≠ [] := by intro e; subst e; simp at hk
  exact keep_off o (hX hne) (h.cells j k hk)

theorem introw_own {w : World} {base n : Nat} {v : Value} {L : List Int} (h : w.ownsRow base 3 1 v n (L.map (Value.int .i64))) : ∃ g ad cap, v = .slice ad L.length cap ∧ IntRow w ad g cap L ∧ base ≤ g ∧ n = L.length := by
  have hn : n = L.length := by have := h.1; simp at this; omega
  rcases h.2 with ⟨rfl, h1⟩ | ⟨g, cap, cur, rfl, hg, hb, hnc, hm, hs, ht⟩
  · have : L = [] := List.eq_nil_of_length_eq_zero (by omega)
    subst this
    exact ⟨base, none, 0, rfl, ⟨fun h => absurd rfl h, Nat.le_refl _, fun j k hk => by simp at hk, fun h => absurd rfl h⟩, Nat.le_refl _, hn⟩
  · refine ⟨g, _, cap, by rw [hn], ⟨fun _ => rfl, by omega, fun j k hk => ?_, fun _ => (Array.getElem?_eq_some_iff.1 hb).1⟩, hg, hn⟩
    have := h.cells (g := g) rfl j (.int .i64 k) (by simp [hk])
    rwa [Addr.add_lit, Nat.zero_add] at this

theorem IntRow.at {w : World} {ad : Option Addr} {g cap : Nat} {L : List Int} (h : IntRow w ad g cap L) {j : Nat} {k : Int} (hk : L[j]? = some k) : ad = some ⟨g, 0, none⟩ ∧ w.cell? ⟨g, j, none⟩ = some (.int .i64 k) ∧ g < w.heap.size := by
  have hne : L ≠ [] := by intro e; subst e; simp at hk
  exact ⟨h.ad hne, h.cells j k hk, h.lt hne⟩

theorem take_snoc {L : List Int} {i : Nat} {k : Int} (h : L[i]? = some k) : L.take (i + 1) = L.take i ++ [k] := by
  have hl := (List.getElem?_eq_some_iff.1 h)
  obtain ⟨hl, rfl⟩ := hl
  exact List.take_succ_eq_append_getElem hl

theorem drop_cons {L : List Int} {i : Nat} {k : Int} (h : L[i]? = some k) : L.drop i = k :: L.drop (i + 1) := by
  obtain ⟨hl, rfl⟩ := List.getElem?_eq_some_iff.1 h
  exact List.drop_eq_getElem_cons hl

theorem cell_lt {w : World} {b o : Nat} {u : Value} (h : w.cell? ⟨b, o, none⟩ = some u) : b < w.heap.size := by
  rcases Nat.lt_or_ge b w.heap.size with hl | hl
  · exact hl
  · simp [World.cell?, Array.getElem?_eq_none hl] at h

theorem ownsRow_base {w : World} {base base' size : Nat} {e : TypeId} {v : Value} {n : Nat} {xs : List Value} (h : w.ownsRow base e size v n xs) (hb : base' ≤ base) : w.ownsRow base' e size v n xs := by
  obtain ⟨h1, h2⟩ := h
  refine ⟨h1, ?_⟩
  rcases h2 with h2 | ⟨g, cap, cur, e1, e2, e3⟩
  · exact Or.inl h2
  · exact Or.inr ⟨g, cap, cur, e1, by omega, e3⟩

end Go.Proofs.YtpknnamficegbaaGreatDoor

