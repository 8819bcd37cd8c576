/- A pool's Slots and Free as calls. Condition: the pool stands in memory as PoolAt says. -/
import Derived.Deep.RegionLaw
import Derived.Test.YtacegkjobfeiiaaCPoolY
import Derived.Test.YtacegkjobfeiiaaCPlaces
set_option linter.unusedVariables false
set_option linter.unusedSimpArgs false
set_option linter.unusedSectionVars false
set_option linter.unnecessarySimpa false
namespace Go.Proofs.Ytacegkjobfeiiaa
open Go.RowKit

set_option maxHeartbeats 400000 in
theorem pool_free (A : PA) (n : Nat) (S : Nat → Sl) (t : Int) (fs : List Nat) (fa : Int) (w : World) (H : PoolAt w A n S t fs fa) :
    Calls Try.prog 23 #[.pointer (some ⟨A.p, 0, none⟩)] w fun e w' => ∃ v, e = .returned v ∧ w'.ownsRow w.heap.size 3 1 v fs.length (fs.map fun x => Value.int .i64 (x : Nat)) ∧ Only [] w w' := by
  have hc : w.cell? ⟨A.p, 1, none⟩ = some (.pointer (some ⟨A.pb, 0, none⟩)) := H.head.cell 1 rfl
  obtain ⟨nx, hp⟩ := H.pile
  have HPL := Lib.hid (pile_places A.pb A.nb n t fs nx w hp)
  clear hp H
  go_enter Try.func23, Try.ntmps23
  go_wp2_with fail
  refine HPL.out.mono ?_
  rintro e w1 ⟨v, rfl, hown, hO⟩
  have HO := Lib.hid hown
  clear hown
  go_wp2_with fail
  go_ret
  exact ⟨_, rfl, HO.out, hO⟩

/-- append to a slice of the call's own, as one step of a region that draws. -/
theorem step_append_own {P : Program} {ops : Array Oper} {o : Oper} {a : Act} {w : World} {K : Act → World → Prop} {Q : Exit → Act → World → Prop} {E : Prop} (hgd : o.guard = none) (s x : Operand) (t : TypeId)
    (ho : o.op = .call { callee := .builtin .append, args := #[s, x], argTypes := #[t, t] })
    (base : Nat) (e : TypeId) (i : TypeInfo) (z : Value) (size bytes : Nat) (ht : P.underlying t = some (.slice e)) (hi : P.info? e = some i) (hz : i.zero = some z)
    (hsize : i.size = size) (hby : i.bytes = bytes) (hzs : z.cells.size = size) (hsz : 0 < size)
    (v : Value) (n : Nat) (xs : List Value) (hs : a.eval s = v) (hown : w.ownsRow base e size v n xs)
    (ad : Addr) (m c : Nat) (news : List Value) (hx : a.eval x = .slice (some ad) m c) (hl : news.length = m * size) (hnews : ∀ j u, news[j]? = some u → w.cell? (ad.add j) = some u) (h1 : ∀ u ∈ news, u.oneCell' = true)
    (h63 : n + m ≤ maxLen) (hbytes : (n + m) * bytes ≤ 140737488355328) (hbase : base ≤ w.heap.size)
    (h : ∀ v' w', w'.ownsRow base e size v' (n + m) (xs ++ news) → w.grownBy w' v.ownBlock → K (a.put o.dst v') w') :
    if Region.wanted o (yielded ops a.tmps) = true then Oper.wp P o a w K Q else E := by
  have hw : Region.wanted o (yielded ops a.tmps) = true := by simp [Region.wanted, hgd]
  rw [if_pos hw]
  exact wp_append_own w s x t ho base e i z size bytes ht hi hz hsize hby hzs hsz v n xs hs hown ad m c news hx hl hnews h1 h63 hbytes hbase fun v' w' h2 h3 _ => h v' w' h2 h3

/-- What Slots tells of a slot: seven cells. -/
def slotCells (s : Sl) : List Value := [.int .i64 s.gen, .int .i64 s.a, .int .i64 s.b, .int .i64 s.c, .int .i64 s.d, .int .i64 s.mark, .int .i64 s.link]
def slotsCells (S : Nat → Sl) (k : Nat) : List Value := (List.range k).flatMap fun j => slotCells (S (j + 1))

theorem slotsCells_succ (S : Nat → Sl) (k : Nat) : slotsCells S (k + 1) = slotsCells S k ++ slotCells (S (k + 1)) := by
  simp [slotsCells, List.range_succ]
theorem slotsCells_length (S : Nat → Sl) : ∀ k, (slotsCells S k).length = k * 7
  | 0 => rfl
  | k + 1 => by rw [slotsCells_succ, List.length_append, slotsCells_length S k]; simp [slotCells]; omega

theorem cells_seven (w : World) (a b c d e f g : Value) (T : TypeId) : ∀ j u, [a, b, c, d, e, f, g][j]? = some u → (w.alloc (.cells #[a, b, c, d, e, f, g] T)).cell? ((⟨w.heap.size, 0, none⟩ : Addr).add j) = some u := by
  intro j u hu
  rw [Addr.add_lit]
  have := (Blk.new w #[a, b, c, d, e, f, g] T).cell j (v := u) (by simpa using hu)
  simpa using this

end Go.Proofs.Ytacegkjobfeiiaa

