/- The program's pool and the document's, alone, side by side: how they stand in memory. Laws of worlds; each names its conditions. -/
import Derived.Test.YtpknnamficegbaaGreatDoorCBookX
import Derived.Test.YtpknnamficegbaaGreatDoorCBoth
set_option linter.unusedVariables false
set_option linter.unusedSimpArgs false
set_option linter.unusedSectionVars false
set_option linter.unnecessarySimpa false
namespace Go.Proofs.YtpknnamficegbaaGreatDoor
open Go.RowKit

/-- The blocks of a pair. -/
structure PB where
  x : Nat
  A : PA
  R : RP
  v : Value

def PB.bl (B : PB) : List Nat := B.x :: (B.A.all ++ (B.R.all ++ B.v.ownBlock.toList))

structure PairAt (w : World) (B : PB) (n : Nat) (s : Ps) (hs : List Int) : Prop where
  head : Blk w B.x #[.pointer (some ⟨B.A.p, 0, none⟩), .pointer (some ⟨B.R.r, 0, none⟩), .pointer (some ⟨B.R.m, 0, none⟩), B.v] 70
  prog : PoolP w B.A n s
  doc : DocQ w B.R n s
  own : w.ownsRow 0 3 1 B.v hs.length (ints hs)
  ax : B.x ∉ B.A.all ∧ B.x ∉ B.R.all ∧ B.v.ownBlock ≠ some B.x
  ar : ∀ b, b ∈ B.A.all → b ∉ B.R.all
  av : ∀ b, B.v.ownBlock = some b → b ∉ B.A.all ∧ b ∉ B.R.all

theorem RefQ.lt {w : World} {A : RP} {n hd : Nat} {S : Nat → Sl} {t : Int} {nx : List Int} {fa : Int} (h : RefQ w A n S hd t nx fa) : ∀ b, b ∈ A.all → b < w.heap.size := by
  intro b hb
  simp [RP.all] at hb
  rcases hb with rfl | rfl | rfl | rfl | rfl
  · exact h.head.lt
  · exact h.q.mem.head.lt
  · exact h.q.mem.row.lt
  · exact h.q.pile.lt
  · exact h.row.lt

section
variable {w w' w0 : World} {B : PB} {n : Nat} {s sd : Ps} {hs : List Int}

theorem PairAt.lt (h : PairAt w B n s hs) : ∀ b, b ∈ B.bl → b < w.heap.size := by
  intro b hb
  simp only [PB.bl, List.mem_cons, List.mem_append, Option.mem_toList] at hb
  rcases hb with rfl | hb | hb | hb
  · exact h.head.lt
  · exact PoolR.lt h.prog b hb
  · exact RefQ.lt h.doc b hb
  · exact (h.own.lt b hb).2

theorem PairAt.only {S : List Nat} (h : PairAt w B n s hs) (o : Only S w w') (hn : ∀ b, b ∈ B.bl → b ∉ S) : PairAt w' B n s hs :=
  ⟨h.head.only o (hn _ (by simp [PB.bl])), PoolR.only h.prog o (fun b hb => hn b (by simp [PB.bl, hb])), RefQ.only h.doc o (fun b hb => hn b (by simp [PB.bl, hb])), ownsRow_only h.own o (fun b hb => hn b (by simp [PB.bl, hb])), h.ax, h.ar, h.av⟩

theorem PairAt.plain (h : PairAt w B n s hs) (o : Only [] w w') : PairAt w' B n s hs := h.only o (by simp)

/-- In the midst of a call: the program's pool in state s, the document's in state sd, its worker at tb. -/
structure DoSt (w0 W : World) (B : PB) (n : Nat) (s sd : Ps) (hs : List Int) (tb k : Nat) : Prop where
  head : Blk W B.x #[.pointer (some ⟨B.A.p, 0, none⟩), .pointer (some ⟨B.R.r, 0, none⟩), .pointer (some ⟨B.R.m, 0, none⟩), B.v] 70
  prog : PoolP W B.A n s
  doc : DocP W B.R tb k n sd
  own : W.ownsRow 0 3 1 B.v hs.length (ints hs)
  only : Only B.bl w0 W
  tb : w0.heap.size ≤ tb
  low : ∀ b, b ∈ B.bl → b < w0.heap.size
  ax : B.x ∉ B.A.all ∧ B.x ∉ B.R.all ∧ B.v.ownBlock ≠ some B.x
  ar : ∀ b, b ∈ B.A.all → b ∉ B.R.all
  av : ∀ b, B.v.ownBlock = some b → b ∉ B.A.all ∧ b ∉ B.R.all

theorem DocP.keep {R : RP} {tb k : Nat} {L : List Nat} (h : DocP w R tb k n s) (o : Only L w w') (hL : ∀ b, b ∈ L → b < tb ∧ b ∉ R.all) : DocP w' R tb k n s :=
  ⟨RefQ.only h.q o (fun b hb hm => (hL b hm).2 hb), h.th.only o (fun b hb => (hL b hb).1), h.low⟩

theorem DocP.plain {R : RP} {tb k : Nat} (h : DocP w R tb k n s) (o : Only [] w w') : DocP w' R tb k n s := h.keep o (by simp)

/-- The worker is made. -/
theorem PairAt.start {tb : Nat} (h : PairAt w B n s hs) (o1 : Only [] w w') (ht : tb = w'.heap.size) {W : World} (o2 : Only [] w' W) (hT : ThAt W tb B.R.m 0) : DoSt w W B n s s hs tb 0 := by
  have h1 := h.plain (o1.trans o2)
  have hs1 := o1.size
  refine ⟨h1.head, h1.prog, ⟨h1.doc, hT, ?_⟩, h1.own, (o1.trans o2).mono (by simp), by omega, h.lt, h.ax, h.ar, h.av⟩
  have hlt := RefQ.lt h.doc
  have a1 := hlt B.R.r (by simp [RP.all])
  have a2 := hlt B.R.m (by simp [RP.all])
  have a3 := hlt B.R.wb (by simp [RP.all])
  have a4 := hlt B.R.pl (by simp [RP.all])
  have a5 := hlt B.R.sb (by simp [RP.all])
  omega

theorem DoSt.plain {tb k : Nat} (h : DoSt w0 w B n s sd hs tb k) (o : Only [] w w') : DoSt w0 w' B n s sd hs tb k :=
  ⟨h.head.only o (by simp), PoolR.only h.prog o (by simp), h.doc.plain o, ownsRow_only h.own o (by simp), h.only.trans (o.mono (by simp)), h.tb, h.low, h.ax, h.ar, h.av⟩

/-- Behind the program's call. -/
theorem DoSt.p {s' : Ps} {tb k : Nat} (h : DoSt w0 w B n s sd hs tb k) (hp : PoolP w' B.A n s') (o : Only B.A.all w w') : DoSt w0 w' B n s' sd hs tb k :=
  ⟨h.head.only o h.ax.1, hp, h.doc.keep o (fun b hb => ⟨Nat.lt_of_lt_of_le (h.low b (by simp [PB.bl, hb])) h.tb, h.ar b hb⟩), ownsRow_only h.own o (fun b hb => (h.av b hb).1), h.only.trans (o.mono (by intro b hb; simp [PB.bl, hb])), h.tb, h.low, h.ax, h.ar, h.av⟩

/-- What stood ahead of the worker stays. -/
theorem Byd.old {tb : Nat} {L S : List Nat} (h : Byd tb L w w') (o : Only S w0 w) (ht : w0.heap.size ≤ tb) (hL : ∀ b, b ∈ L → b ∈ S) : Only S w0 w' :=
  ⟨h.os.trans o.os, h.tape.trans o.tape, h.output.trans o.output, Nat.le_trans o.size h.size, fun k hk hn => (h.block k (by omega) (fun hm => hn (hL k hm))).trans (o.block k hk hn)⟩

/-- Behind the document's call. -/
theorem DoSt.d {s' : Ps} {tb k k' : Nat} (h : DoSt w0 w B n s sd hs tb k) (hp : DocP w' B.R tb k' n s') (o : Byd tb B.R.all w w') : DoSt w0 w' B n s s' hs tb k' := by
  have hlt : ∀ b, b ∈ B.bl → b < tb := fun b hb => Nat.lt_of_lt_of_le (h.low b hb) h.tb
  refine ⟨h.head.only o.only (Byd.not_in (hlt _ (by simp [PB.bl])) h.ax.2.1), PoolR.only h.prog o.only (fun b hb => Byd.not_in (hlt b (by simp [PB.bl, hb])) (h.ar b hb)), hp, ownsRow_only h.own o.only (fun b hb => Byd.not_in (hlt b (by simp [PB.bl, hb])) (h.av b hb).2), o.old h.only h.tb (by intro b hb; simp [PB.bl, hb]), h.tb, h.low, h.ax, h.ar, h.av⟩

theorem DoSt.back {tb k : Nat} (h : DoSt w0 w B n s s hs tb k) : PairAt w B n s hs ∧ Only B.bl w0 w := ⟨⟨h.head, h.prog, h.doc.q, h.own, h.ax, h.ar, h.av⟩, h.only⟩

/-- Behind a call: both hold the same again, the blocks are those of before or new ones. -/
def DoesOut (n c m : Nat) (B : PB) (w : World) (e : Ending) (w' : World) : Prop :=
  e = .returned (.bool true) ∧ ∃ v s hs, PairAt w' ⟨B.x, B.A, B.R, v⟩ n s hs ∧ Ps.Inv s n c ∧ hs.length ≤ m ∧ Only B.bl w w' ∧ ∀ b, v.ownBlock = some b → B.v.ownBlock = some b ∨ w.heap.size ≤ b

theorem DoSt.out {tb k c m : Nat} (h : DoSt w0 w B n s s hs tb k) (I : s.Inv n c) (hm : hs.length ≤ m) : DoesOut n c m B w0 (.returned (.bool true)) w := by
  obtain ⟨h1, h2⟩ := h.back
  exact ⟨rfl, B.v, s, hs, h1, I, hm, h2, fun b hb => Or.inl hb⟩

theorem DoSt.head_after {w1 w2 : World} {v' : Value} {tb k : Nat} (h : DoSt w0 w B n s sd hs tb k) (o1 : Only [] w w1) (h3 : App3 B.v v' w1 w2) : Blk w2 B.x #[.pointer (some ⟨B.A.p, 0, none⟩), .pointer (some ⟨B.R.r, 0, none⟩), .pointer (some ⟨B.R.m, 0, none⟩), B.v] 70 :=
  (h.head.only o1 (by simp)).only (app3 h3).1 (by simpa using h.ax.2.2)

/-- A handle is put behind the others. -/
theorem DoSt.pushed {w1 w2 : World} {v' : Value} {tb k c m : Nat} {r : Int} (h : DoSt w0 w B n s s hs tb k) (o1 : Only [] w w1) (hown : w2.ownsRow 0 3 1 v' (hs.length + 1) (ints hs ++ [.int .i64 r])) (h3 : App3 B.v v' w1 w2) (I : s.Inv n c) (hm : hs.length + 1 ≤ m) : DoesOut n c m B w0 (.returned (.bool true)) (w2.setCell ⟨B.x, 3, none⟩ v') := by
  obtain ⟨o2, hat⟩ := app3 h3
  have hx2 := h.head_after o1 h3
  have ho3 : Only [B.x] w2 (w2.setCell ⟨B.x, 3, none⟩ v') := Only.setCell _ (by simp) _
  have hvb : ∀ b, B.v.ownBlock = some b → b ∈ B.bl := fun b hb => by simp [PB.bl, hb]
  have hnew : ∀ b, v'.ownBlock = some b → B.v.ownBlock = some b ∨ w.heap.size ≤ b := fun b hb => by
    rcases hat b hb with h1 | h1
    · exact Or.inl h1
    · exact Or.inr (Nat.le_trans o1.size h1)
  have hold : ∀ b, b ∈ B.bl → b < w.heap.size := fun b hb => Nat.lt_of_lt_of_le (h.low b hb) h.only.size
  have hout : ∀ b, v'.ownBlock = some b → b ≠ B.x ∧ b ∉ B.A.all ∧ b ∉ B.R.all := fun b hb => by
    rcases hnew b hb with h1 | h1
    · exact ⟨fun e => h.ax.2.2 (e ▸ h1), h.av b h1⟩
    · refine ⟨fun e => ?_, fun hm => ?_, fun hm => ?_⟩
      · have := hold B.x (by simp [PB.bl]); omega
      · have := hold b (by simp [PB.bl, hm]); omega
      · have := hold b (by simp [PB.bl, hm]); omega
  have hA : ∀ b, b ∈ B.A.all → b ∉ B.v.ownBlock.toList := fun b hb hm => (h.av b (by simpa using hm)).1 hb
  have hR : ∀ b, b ∈ B.R.all → b ∉ B.v.ownBlock.toList := fun b hb hm => (h.av b (by simpa using hm)).2 hb
  have hq : Only B.bl w0 (w2.setCell ⟨B.x, 3, none⟩ v') := ((h.only.trans (o1.mono (by simp))).trans (o2.mono fun b hb => hvb b (by simpa using hb))).trans (ho3.mono (by simp [PB.bl]))
  refine ⟨rfl, v', s, hs ++ [r], ⟨hx2.set_same 3 v', ?_, ?_, ?_, ⟨h.ax.1, h.ax.2.1, fun e => (hout _ e).1 rfl⟩, h.ar, fun b hb => (hout b hb).2⟩, I, by simpa using hm, hq, fun b hb => ?_⟩
  · exact PoolR.only (PoolR.only (PoolR.only h.prog o1 (by simp)) o2 hA) ho3 (fun b hb hm => h.ax.1 (by simp at hm; exact hm ▸ hb))
  · exact RefQ.only (RefQ.only (RefQ.only h.doc.q o1 (by simp)) o2 hR) ho3 (fun b hb hm => h.ax.2.1 (by simp at hm; exact hm ▸ hb))
  · have h1 : w2.ownsRow 0 3 1 v' (hs ++ [r]).length (ints (hs ++ [r])) := by simpa [ints] using hown
    exact ownsRow_only h1 ho3 (fun b hb hm => (hout b hb).1 (by simpa using hm))
  · rcases hnew b hb with h1 | h1
    · exact Or.inl h1
    · exact Or.inr (Nat.le_trans h.only.size h1)

/-- A new block is not the worker's. -/
theorem NotTh.new {tb mb k b : Nat} (h : ThAt w tb mb k) (o : Only [] w w') (hb : w.heap.size ≤ b) : NotTh w' tb b := by
  have hlt := h.lt
  obtain ⟨own, log, L, left, hB, hO, hr⟩ := h
  refine ⟨by omega, fun e => ?_⟩
  rw [logB_only o hlt (by simp)] at e
  unfold logB at e
  rw [hB.cell 4 rfl] at e
  have := (hO.lt b e).2
  omega

/-- What an old block held stays. -/
theorem DoSt.keep_blk {tb b : Nat} {vs : Array Value} {T : TypeId} {L : List Nat} (hB : Blk w b vs T) (hb : b < tb) (hn : b ∉ L) (o : Byd tb L w w') : Blk w' b vs T := hB.only o.only (Byd.not_in hb hn)

end

end Go.Proofs.YtpknnamficegbaaGreatDoor

