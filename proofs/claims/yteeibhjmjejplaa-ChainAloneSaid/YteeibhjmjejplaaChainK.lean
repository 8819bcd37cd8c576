/- The statement's function, walked: calls on a chain, done alone, answer true. Condition: the script's calls stand in memory as OpsAt says. -/
import Derived.Test.YteeibhjmjejplaaChainJ
import Derived.Test.YteeibhjmjejplaaRegion
import Derived.Laws.AppendOwnNone
namespace Go.Proofs.Yteeibhjmjejplaa
open Go.RowKit

set_option maxRecDepth 100000 in
theorem frame477 (f : Nat → Value) : frameOf f 477 = f 0 :: f 1 :: f 2 :: f 3 :: f 4 :: f 5 :: f 6 :: f 7 :: f 8 :: f 9 :: f 10 :: f 11 :: f 12 :: f 13 :: f 14 :: f 15 :: f 16 :: f 17 :: f 18 :: f 19 :: f 20 :: f 21 :: f 22 :: f 23 :: f 24 :: f 25 :: f 26 :: f 27 :: f 28 :: f 29 :: f 30 :: f 31 :: f 32 :: f 33 :: f 34 :: f 35 :: f 36 :: f 37 :: f 38 :: f 39 :: f 40 :: f 41 :: f 42 :: f 43 :: f 44 :: f 45 :: f 46 :: f 47 :: f 48 :: f 49 :: f 50 :: f 51 :: f 52 :: f 53 :: f 54 :: f 55 :: f 56 :: f 57 :: f 58 :: f 59 :: f 60 :: f 61 :: f 62 :: f 63 :: f 64 :: f 65 :: f 66 :: f 67 :: f 68 :: f 69 :: f 70 :: f 71 :: f 72 :: f 73 :: f 74 :: f 75 :: f 76 :: f 77 :: f 78 :: f 79 :: f 80 :: f 81 :: f 82 :: f 83 :: f 84 :: f 85 :: f 86 :: f 87 :: f 88 :: f 89 :: f 90 :: f 91 :: f 92 :: f 93 :: f 94 :: f 95 :: f 96 :: f 97 :: f 98 :: f 99 :: f 100 :: f 101 :: f 102 :: f 103 :: f 104 :: f 105 :: f 106 :: f 107 :: f 108 :: f 109 :: f 110 :: f 111 :: f 112 :: f 113 :: f 114 :: f 115 :: f 116 :: f 117 :: f 118 :: f 119 :: f 120 :: f 121 :: f 122 :: f 123 :: f 124 :: f 125 :: f 126 :: f 127 :: f 128 :: f 129 :: f 130 :: f 131 :: f 132 :: f 133 :: f 134 :: f 135 :: f 136 :: f 137 :: f 138 :: f 139 :: f 140 :: f 141 :: f 142 :: f 143 :: f 144 :: f 145 :: f 146 :: f 147 :: f 148 :: f 149 :: f 150 :: f 151 :: f 152 :: f 153 :: f 154 :: f 155 :: f 156 :: f 157 :: f 158 :: f 159 :: f 160 :: f 161 :: f 162 :: f 163 :: f 164 :: f 165 :: f 166 :: f 167 :: f 168 :: f 169 :: f 170 :: f 171 :: f 172 :: f 173 :: f 174 :: f 175 :: f 176 :: f 177 :: f 178 :: f 179 :: f 180 :: f 181 :: f 182 :: f 183 :: f 184 :: f 185 :: f 186 :: f 187 :: f 188 :: f 189 :: f 190 :: f 191 :: f 192 :: f 193 :: f 194 :: f 195 :: f 196 :: f 197 :: f 198 :: f 199 :: f 200 :: f 201 :: f 202 :: f 203 :: f 204 :: f 205 :: f 206 :: f 207 :: f 208 :: f 209 :: f 210 :: f 211 :: f 212 :: f 213 :: f 214 :: f 215 :: f 216 :: f 217 :: f 218 :: f 219 :: f 220 :: f 221 :: f 222 :: f 223 :: f 224 :: f 225 :: f 226 :: f 227 :: f 228 :: f 229 :: f 230 :: f 231 :: f 232 :: f 233 :: f 234 :: f 235 :: f 236 :: f 237 :: f 238 :: f 239 :: f 240 :: f 241 :: f 242 :: f 243 :: f 244 :: f 245 :: f 246 :: f 247 :: f 248 :: f 249 :: f 250 :: f 251 :: f 252 :: f 253 :: f 254 :: f 255 :: f 256 :: f 257 :: f 258 :: f 259 :: f 260 :: f 261 :: f 262 :: f 263 :: f 264 :: f 265 :: f 266 :: f 267 :: f 268 :: f 269 :: f 270 :: f 271 :: f 272 :: f 273 :: f 274 :: f 275 :: f 276 :: f 277 :: f 278 :: f 279 :: f 280 :: f 281 :: f 282 :: f 283 :: f 284 :: f 285 :: f 286 :: f 287 :: f 288 :: f 289 :: f 290 :: f 291 :: f 292 :: f 293 :: f 294 :: f 295 :: f 296 :: f 297 :: f 298 :: f 299 :: f 300 :: f 301 :: f 302 :: f 303 :: f 304 :: f 305 :: f 306 :: f 307 :: f 308 :: f 309 :: f 310 :: f 311 :: f 312 :: f 313 :: f 314 :: f 315 :: f 316 :: f 317 :: f 318 :: f 319 :: f 320 :: f 321 :: f 322 :: f 323 :: f 324 :: f 325 :: f 326 :: f 327 :: f 328 :: f 329 :: f 330 :: f 331 :: f 332 :: f 333 :: f 334 :: f 335 :: f 336 :: f 337 :: f 338 :: f 339 :: f 340 :: f 341 :: f 342 :: f 343 :: f 344 :: f 345 :: f 346 :: f 347 :: f 348 :: f 349 :: f 350 :: f 351 :: f 352 :: f 353 :: f 354 :: f 355 :: f 356 :: f 357 :: f 358 :: f 359 :: f 360 :: f 361 :: f 362 :: f 363 :: f 364 :: f 365 :: f 366 :: f 367 :: f 368 :: f 369 :: f 370 :: f 371 :: f 372 :: f 373 :: f 374 :: f 375 :: f 376 :: f 377 :: f 378 :: f 379 :: f 380 :: f 381 :: f 382 :: f 383 :: f 384 :: f 385 :: f 386 :: f 387 :: f 388 :: f 389 :: f 390 :: f 391 :: f 392 :: f 393 :: f 394 :: f 395 :: f 396 :: f 397 :: f 398 :: f 399 :: f 400 :: f 401 :: f 402 :: f 403 :: f 404 :: f 405 :: f 406 :: f 407 :: f 408 :: f 409 :: f 410 :: f 411 :: f 412 :: f 413 :: f 414 :: f 415 :: f 416 :: f 417 :: f 418 :: f 419 :: f 420 :: f 421 :: f 422 :: f 423 :: f 424 :: f 425 :: f 426 :: f 427 :: f 428 :: f 429 :: f 430 :: f 431 :: f 432 :: f 433 :: f 434 :: f 435 :: f 436 :: f 437 :: f 438 :: f 439 :: f 440 :: f 441 :: f 442 :: f 443 :: f 444 :: f 445 :: f 446 :: f 447 :: f 448 :: f 449 :: f 450 :: f 451 :: f 452 :: f 453 :: f 454 :: f 455 :: f 456 :: f 457 :: f 458 :: f 459 :: f 460 :: f 461 :: f 462 :: f 463 :: f 464 :: f 465 :: f 466 :: f 467 :: f 468 :: f 469 :: f 470 :: f 471 :: f 472 :: f 473 :: f 474 :: f 475 :: f 476 :: [] := by kernel_rfl

/-- What the frame holds throughout. -/
structure FrK (A : PA) (X Y : CA) (cb n : Nat) (sa : Option Addr) (N sc : Nat) (f : Nat → Value) : Prop where
  f0 : f 0 = .int .i64 n
  f1 : f 1 = .slice sa N sc
  f5 : f 5 = .pointer (some ⟨A.p, 0, none⟩)
  f7 : f 7 = .pointer (some ⟨cb, 0, none⟩)
  f9 : f 9 = .pointer (some ⟨X.x, 0, none⟩)
  f10 : f 10 = .pointer (some ⟨Y.x, 0, none⟩)

structure Op4 where
  kind : Int
  a : Int
  old : Int
  v : Value
  l : List Int

def OpsAt (w : World) (b o N : Nat) (O : Nat → Op4) : Prop :=
  ∀ i, i < N → w.cell? ⟨b, o + i * 4, none⟩ = some (.int .i64 (O i).kind) ∧ w.cell? ⟨b, o + i * 4 + 1, none⟩ = some (.int .i64 (O i).a) ∧ w.cell? ⟨b, o + i * 4 + 2, none⟩ = some (.int .i64 (O i).old) ∧ w.cell? ⟨b, o + i * 4 + 3, none⟩ = some (O i).v ∧
    Reads w (O i).v (O i).l ∧ ((O i).l = [] ∨ ∀ k, k ∈ blockOf (O i).v → k < w.heap.size) ∧ ((O i).v = .slice none 0 0 ∨ ∃ a l c, (O i).v = .slice (some a) l c)

theorem keep_cell {w w' : World} {a : Addr} {v : Value} (o : Only [] w w') (h : w.cell? a = some v) : w'.cell? a = some v := (o.cell (by
  unfold World.cell? at h
  split at h
  · rename_i c e fr hb
    exact (Array.getElem?_eq_some_iff.1 hb).1
  · cases h) (by simp)).trans h

set_option maxHeartbeats 800000 in
theorem chain_at_none (X : CA) (A : PA) (cb n : Nat) (Z : Nat → Ent) (stamp : Int) (w : World) (C : ChainAt w X A cb n 0 Z) :
    Calls Try.prog 9 #[.pointer (some ⟨X.x, 0, none⟩), .pointer none, .int .i64 stamp] w fun e w' => e = .returned (.tuple #[.int .i64 0, .int .i64 141]) ∧ w = w' := by
  have HT := Lib.hid (chain_top_none X A cb n Z w C)
  clear C
  go_enter Try.func9, Try.ntmps9
  go_wp2_with fail
  refine HT.out.mono ?_
  rintro e w' ⟨rfl, rfl⟩
  go_wp2_with fail
  refine wp_loop_rounds 1 ?_
  rw [rounds_succ]
  go_wp2_with fail
  go_ret2
  exact ⟨rfl, rfl⟩

theorem ch_top0 {w : World} {A : PA} {X : CA} {cb cq n : Nat} {S : Nat → Sl} {t : Int} {fs : List Nat} {now : Int} {ls : List Int} {Z : Nat → Ent} {i : Nat} {L : List Nat} {base m : Nat} (C : Ch w A X cb cq n S t fs now ls Z L base m) (hi : L[0]? = some i) :
    Calls Try.prog 8 #[.pointer (some ⟨X.x, 0, none⟩), .pointer none] w fun e w' => e = .returned (.tuple #[.int .i64 (wd i (S i).gen), .int .i64 (S i).mark, .int .i64 0]) ∧ w = w' := by
  cases L with
  | nil => simp at hi
  | cons a r => simp at hi; subst hi; exact ch_top C

theorem chain_versions_none (Y : CA) (A : PA) (cb n : Nat) (Z : Nat → Ent) (S : Nat → Sl) (t : Int) (fs : List Nat) (fa : Int) (w : World) (C : ChainAt w Y A cb n 0 Z) (H : PoolAt w A n S t fs fa) :
    Calls Try.prog 16 #[.pointer (some ⟨Y.x, 0, none⟩)] w fun e w' => ∃ ad cap, e = .returned (.slice ad 0 cap) ∧ Only [] w w' := by
  refine (chain_versions Y A cb n Z S t fs fa [] w C H ⟨List.nodup_nil, fun _ h => by simp at h, fun _ h => by simp at h, trivial⟩ (Nat.zero_le _)).mono ?_
  rintro e w' ⟨v, he, hown, hO⟩
  obtain ⟨ad, cap, rfl⟩ := own_slice hown
  exact ⟨ad, cap, he, hO⟩

theorem own_any_set {w : World} {base : Nat} {e : TypeId} {g n cap : Nat} {xs : List Value} (h : w.ownsRow base e 1 (.slice (some ⟨g, 0, none⟩) n cap) n xs) (j : Nat) (u : Value) : ∃ ys, (w.setCell ⟨g, j, none⟩ u).ownsRow base e 1 (.slice (some ⟨g, 0, none⟩) n cap) n ys := ⟨_, row_set h j u⟩

/-- A place in a slice of one's own: there, and not frozen. -/
theorem own_place {w : World} {base : Nat} {e : TypeId} {n cap : Nat} {ad : Option Addr} {xs : List Value} (h : w.ownsRow base e 1 (.slice ad n cap) n xs) {j : Nat} (hj : j < n) : ∃ g u, ad = some ⟨g, 0, none⟩ ∧ base ≤ g ∧ g < w.heap.size ∧ n ≤ cap ∧ w.cell? ⟨g, j, none⟩ = some u ∧ w.frozen? ⟨g, j, none⟩ = false ∧ xs[j]? = some u := by
  have hlt := h.lt
  have hl : xs.length = n := by simpa using h.1
  rcases h.2 with ⟨hv, h0⟩ | ⟨g, cap', cur, hv, hg, hb, hnc, hm, hs, ht⟩
  · omega
  · cases hv
    have hxj : xs[j]? = some (xs[j]'(by omega)) := List.getElem?_eq_getElem (by omega)
    have := h.cells (g := g) rfl j _ hxj
    rw [Addr.add_lit, Nat.zero_add] at this
    exact ⟨g, _, rfl, hg, (hlt g rfl).2, hnc, this, Blk.free (show Blk w g cur e from hb) j, hxj⟩

theorem st_reads (zl : List Int) : St (fun v w => Reads w v zl) := fun _ _ _ h o => h.only o (by simp)

/-- The one version's cells, made. -/
theorem Mn.start {w w' : World} {A : PA} {X Y : CA} {cb cq n : Nat} {base ws : Nat} {ZY : Nat → Ent} (h2 : 2 ≤ n)
    (C : Ch w A X cb cq n (upS (fun _ => slot0) 1 ⟨1, 1, 0, -1, 0, 0, 0⟩) 1 (List.range' 2 (n - 1)) 1 [0] (upE (fun _ => ent0) 1 ⟨wd 1 1, .slice none 0 0, []⟩) [1] base 1) (hY : ChainAt w Y A cb n 0 ZY)
    (ylow : ∀ k, k ∈ Y.all → k < base ∧ k ∉ A.all ∧ k ∉ X.all ∧ k ≠ cb ∧ k ≠ cq) (new : (∀ k, k ∈ A.all → ws ≤ k) ∧ (∀ k, k ∈ X.all → ws ≤ k) ∧ ws ≤ cb ∧ ws ≤ cq ∧ ws ≤ base)
    (hw : w' = w.alloc (.cells #[.int .i64 (wd 1 1), .int .i64 (-1), .int .i64 1, .slice none 0 0] 42)) :
    Mn w' A X Y cb cq n (upS (fun _ => slot0) 1 ⟨1, 1, 0, -1, 0, 0, 0⟩) 1 (List.range' 2 (n - 1)) 1 [0] (upE (fun _ => ent0) 1 ⟨wd 1 1, .slice none 0 0, []⟩) [1] base 1 ws (.slice (some ⟨w.heap.size, 0, none⟩) 1 1) (fun _ => .slice none 0 0) 1 := by
  subst hw
  exact {
    ch := C.plain (Only.alloc _ _ _)
    oth := ⟨ZY, hY.only (Only.alloc [] _ _) (by simp)⟩
    ylow := ylow
    own := (World.ownsRow_lit w #[.int .i64 (wd 1 1), .int .i64 (-1), .int .i64 1, .slice none 0 0] 1 C.high (by decide) rfl)
    apart := fun k hk i hi hm => by simp at hi; subst hi; rw [upE_same] at hm; simp [blockOf] at hm
    svs := fun i hi => by simp at hi; subst hi; rw [upE_same]; exact ⟨Reads.nil _, Or.inl rfl⟩
    new := new
    used := by simp; omega
    ne := by simp
    lu := by simp }

theorem info_version : (Try.prog.info? 42).map (fun i => (i.zero, i.size, i.bytes)) = some (some (.agg #[.int .i64 0, .int .i64 0, .int .i64 0, .slice none 0 0]), 4, 48) := by kernel_rfl

set_option maxRecDepth 100000 in
set_option maxHeartbeats 20000000 in
theorem alone_core (n N : Nat) (sb so sc : Nat) (sa : Option Addr) (O : Nat → Op4) (hn : 2 ≤ n) (hn2 : n ≤ 200) (hN : N ≤ 200) (w : World) (hO : OpsAt w sb so N O) (hsa : 0 < N → sa = some ⟨sb, so, none⟩) :
    Calls Try.prog 3 #[.int .i64 n, .slice sa N sc] w fun e w' => e = .returned (.bool true) ∧ Only [] w w' := by
  have hd1 : decide ((n : Int) < 2) = false := by simp; omega
  have hd2 : decide (200 < (n : Int)) = false := by simp; omega
  have hd3 : decide (200 < (N : Int)) = false := by simp; omega
  have HOP := Lib.hid hO
  have HSA := Lib.hid hsa
  clear hO hsa
  go_enter Try.func3, Try.ntmps3
  go_wp2_with fail
  refine (chain_known w).mono ?_
  rintro e w0 ⟨rfl, hO0⟩
  go_wp2_with fail
  refine (pool_new n (by omega) (by omega) w0).mono ?_
  rintro e w1 ⟨A, rfl, hP, hO1, hA⟩
  have hAl := hP.lt
  go_wp2_with fail
  refine (clock_new 1 (by omega) (by omega) w1).mono ?_
  rintro e w2 ⟨rfl, hK, hO2⟩
  have hkl := hK.head.lt
  have hP2 := hP.only hO2 (by simp)
  go_wp2_with fail
  refine (chain_new A _ n _ _ _ _ w2 hP2).mono ?_
  rintro e w3 ⟨X, rfl, hC, hO3, hX⟩
  have hXl := hC.lt
  have hP3 := hP2.only hO3 (by simp)
  have hK3 := hK.only hO3 (by simp) (by simp)
  go_wp2_with fail
  refine (chain_new A _ n _ _ _ _ w3 hP3).mono ?_
  rintro e w4 ⟨Y, rfl, hD, hO4, hY⟩
  have hYl := hD.lt
  have hP4 := hP3.only hO4 (by simp)
  have hK4 := hK3.only hO4 (by simp) (by simp)
  have hC4 := hC.only hO4 (by simp)
  have hSP : Sep A X (w1.heap.size + 1) w1.heap.size := ⟨fun k hk => by have h1 := hAl k hk; have h2 := hO2.size; exact ⟨fun hm => by have h3 := hX k hm; omega, by omega, by omega⟩, fun k hk => by have h1 := hX k hk; omega⟩
  have hb := (((hO0.trans hO1).trans hO2).trans hO3).trans hO4
  have hlow : (∀ k, k ∈ A.all → k < w4.heap.size) ∧ (∀ k, k ∈ X.all → k < w4.heap.size) ∧ w1.heap.size + 1 < w4.heap.size ∧ w1.heap.size < w4.heap.size := ⟨fun k hk => by have h1 := hAl k hk; have h2 := hO2.size; have h3 := hO3.size; have h4 := hO4.size; omega, fun k hk => by have h1 := hXl k hk; have h4 := hO4.size; omega, by have h3 := hO3.size; have h4 := hO4.size; omega, by have h3 := hO3.size; have h4 := hO4.size; omega⟩
  have hylow : ∀ k, k ∈ Y.all → k < w4.heap.size ∧ k ∉ A.all ∧ k ∉ X.all ∧ k ≠ w1.heap.size + 1 ∧ k ≠ w1.heap.size := fun k hk => by
    have h1 := hYl k hk; have h2 := hY k hk; have h3 := hO3.size; have h4 := hO2.size
    exact ⟨h1, fun hm => by have := hAl k hm; omega, fun hm => by have := hXl k hm; omega, by omega, by omega⟩
  have hnew : (∀ k, k ∈ A.all → w.heap.size ≤ k) ∧ (∀ k, k ∈ X.all → w.heap.size ≤ k) ∧ w.heap.size ≤ w1.heap.size + 1 ∧ w.heap.size ≤ w1.heap.size ∧ w.heap.size ≤ w4.heap.size := by
    have h0 := hO0.size; have h1 := hO1.size; have h2 := hO2.size; have h3 := hO3.size; have h4 := hO4.size
    exact ⟨fun k hk => by have := hA k hk; omega, fun k hk => by have := hX k hk; omega, by omega, by omega, by omega⟩
  have HTN := Lib.hid (chain_top_none X A _ n _ w4 hC4)
  have HAN := Lib.hid (chain_at_none X A _ n _ 5 w4 hC4)
  have HF := Lib.hid (ch_first (base := w4.heap.size) (w := w4) (by omega) hP4 hK4 hC4 hSP hlow (Nat.le_refl _) (-1) 0 0 0)
  have HB := Lib.hid hb
  have HYL := Lib.hid hylow
  have HNEW := Lib.hid hnew
  have HLOW := Lib.hid hlow
  have HD := Lib.hid hD
  clear hb hylow hnew hlow hSP hC4 hK4 hP4 hYl hD hO4 hY hK3 hP3 hXl hC hO3 hX hP2 hkl hK hO2 hAl hP hO1 hA hO0
  generalize w1.heap.size + 1 = cb at *
  generalize w1.heap.size = cq at *
  generalize hbs : w4.heap.size = base at *
  clear hbs
  go_wp2_with fail
  refine HTN.out.mono ?_
  rintro e w' ⟨rfl, rfl⟩
  go_wp2_with fail
  refine HAN.out.mono ?_
  rintro e w' ⟨rfl, rfl⟩
  go_wp2_with fail
  refine HF.out.mono ?_
  rintro e w5 ⟨rfl, hCh, hO5⟩
  have hB5 := HB.out.past hO5 (fun k hk => Or.inr (by rcases List.mem_append.1 hk with h | h; exact HNEW.out.1 k h; exact HNEW.out.2.1 k h))
  have hD5 := HD.out.only hO5 (fun k hk hm => by rcases List.mem_append.1 hm with h | h; exact (HYL.out k hk).2.1 h; exact (HYL.out k hk).2.2.1 h)
  have HM0 := Lib.hid (Mn.start hn hCh hD5 HYL.out HNEW.out rfl)
  have HB5 := Lib.hid (hB5.trans (Only.alloc [] w5 (.cells #[.int .i64 (wd 1 1), .int .i64 (-1), .int .i64 1, .slice none 0 0] 42)))
  clear hCh hO5 hB5 hD5 HTN HAN HF HB HD
  go_wp2_with fail
  refine wp_loop_f 477 (fun g f wr => FrK A X Y cb n sa N sc f ∧ ∃ (k : Nat) (S : Nat → Sl) (t : Int) (fs : List Nat) (now : Int) (Z : Nat → Ent) (L : List Nat) (lv : Value) (sv : Nat → Value) (u : Nat) (ct : Nat), k + g = N ∧ f 15 = lv ∧ f 16 = .int .i64 now ∧ f 17 = .int .i64 u ∧ f 18 = .int .i64 ct ∧ ct ≤ k ∧ f 19 = .int .i64 k ∧ Mn wr A X Y cb cq n S t fs now [0] Z L base (k + 1) w.heap.size lv sv u ∧ Only [] w wr) N rfl ?start ?round
  case start => exact ⟨⟨rfl, rfl, rfl, rfl, rfl, rfl⟩, 0, _, _, _, _, _, _, _, _, 1, 0, by omega, rfl, rfl, rfl, rfl, Nat.le_refl _, rfl, HM0.out, HB5.out⟩
  case round =>
    clear HM0 HB5
    intro gk0 f wr hrel JL KL hJL hKL
    obtain ⟨F, k, S, t, fs, now, Z, L, lv, sv, u, ct, hk, h15, h16, h17, h18, hct, h19, hM, hB⟩ := hrel
    have HK := Lib.hid hk
    have HM := Lib.hid hM
    have HB := Lib.hid hB
    clear hM hB
    obtain ⟨fl, hfl⟩ : ∃ l, frameOf f 477 = l := ⟨_, rfl⟩
    rw [hfl]
    rw [frame477, F.f0, F.f1, F.f5, F.f7, F.f9, F.f10, h15, h16, h17, h18, h19] at hfl
    subst hfl
    clear F h15 h16 h17 h18 h19
    by_cases hkn : k < N
    · obtain rfl := HSA.out (by omega)
      have hki : (k : Int) < N := by omega
      obtain ⟨c0, c1, c2, c3, hrd, hbk, hnv⟩ := HOP.out k hkn
      have o0 := keep_cell HB.out c0
      have o1 := keep_cell HB.out c1
      have o2 := keep_cell HB.out c2
      have o3 := keep_cell HB.out c3
      have hrd2 := hrd.only HB.out (by simp)
      obtain ⟨va, vcap, hov, _⟩ := id hrd
      rw [hov] at o3 hrd2 hbk hnv
      have HRD := Lib.hid hrd2
      have HBK := Lib.hid hbk
      have HNV := Lib.hid hnv
      clear hk c0 c1 c2 c3 hrd hbk hov hrd2 hnv
      generalize (O k).kind = kd at *
      generalize (O k).a = oa at *
      generalize (O k).old = oo at *
      generalize (O k).l = xs at *
      go_upto_block 2 with fail
      refine wp_name (fun w2 => Mn w2 A X Y cb cq n S t fs now [0] Z L base (k + 1) w.heap.size lv sv u ∧ Blk w2 wr.heap.size #[.int .i64 kd, .int .i64 oa, .int .i64 oo, .slice va xs.length vcap] 45 ∧ Only [] w w2 ∧ Reads w2 (.slice va xs.length vcap) xs ∧ (base ≤ wr.heap.size ∧ (∀ i, i ∈ L → wr.heap.size ∉ blockOf (Z i).v) ∧ lv.ownBlock ≠ some wr.heap.size)) ⟨HM.out.plain (Only.alloc _ _ _), Blk.new _ _ _, HB.out.trans (Only.alloc _ _ _), HRD.out.only (Only.alloc [] _ _) (by simp), HM.out.ch.high, fun i hi hm => by have := ((HM.out.ch.ent i hi).2.2.2 _ hm).2; omega, fun hm => by have := (HM.out.own.lt _ hm).2; omega⟩ ?_
      rintro w2 ⟨hM2, hOB, hB2, hRD2, hob⟩
      have q0 := hOB.cell 0 rfl
      have q1 := hOB.cell 1 rfl
      have q2 := hOB.cell 2 rfl
      have q3 := hOB.cell 3 rfl
      have HOB := Lib.hid hob
      clear o0 o1 o2 o3 HM HB HRD hob
      generalize wr.heap.size = ob at *
      obtain ⟨g, lcap, rfl, hgb, hgs, hgc, hgf, hcell⟩ := hM2.at
      have hL0 : 0 < L.length := List.length_pos_iff.2 hM2.ne
      obtain ⟨i0, hi0⟩ : ∃ i, L[0]? = some i := ⟨_, List.getElem?_eq_getElem hL0⟩
      have hL0' : (0 : Int) < L.length := by omega
      have hLn : L.length ≤ 4096 := by have := hM2.ch.len; omega
      have HC := Lib.hid hcell
      have HM2 := Lib.hid hM2
      have HB2 := Lib.hid hB2
      have HRD2 := Lib.hid hRD2
      have HGF := Lib.hid hgf
      have HGB := Lib.hid hgb
      have HI0 := Lib.hid hi0
      have HOBB := Lib.hid hOB
      clear hcell hM2 hB2 hRD2 hgf hgb hi0 hOB
      clear wr
      refine wp_cut_f 477 [] (fun f wc => FrK A X Y cb n (some ⟨sb, so, none⟩) N sc f ∧ f 19 = .int .i64 k ∧ ∃ (S : Nat → Sl) (t : Int) (fs : List Nat) (now : Int) (Z : Nat → Ent) (L : List Nat) (lv : Value) (sv : Nat → Value) (u : Nat) (ct : Nat), f 15 = lv ∧ f 16 = .int .i64 now ∧ f 17 = .int .i64 u ∧ f 18 = .int .i64 ct ∧ ct ≤ k + 1 ∧ Mn wc A X Y cb cq n S t fs now [0] Z L base (k + 2) w.heap.size lv sv u ∧ Only [] w wc) ?rest ?first
      case first =>
        intro JC KC hJC hKC
        by_cases h1 : kd = 1
        · subst h1
          --ARM1
          clear q0
          by_cases hx : xs.length ≤ 50
          · have hd : decide (50 < (xs.length : Int)) = false := by simp; omega
            have hhd0 : hdOf S L = wd i0 (S i0).gen := by have := hdOf_drop (S := S) HI0.out; simpa using this
            have p0 : w2.cell? ⟨g, 0, none⟩ = some (.int .i64 (wd i0 (S i0).gen)) := by have := HC.out 0 i0 0 _ HI0.out (by decide) rfl; simpa using this
            go_upto_region 26 with fail
            refine wp_cut_f 477 [] (fun f wc => FrK A X Y cb n (some ⟨sb, so, none⟩) N sc f ∧ f 15 = .slice (some ⟨g, 0, none⟩) L.length lcap ∧ f 16 = .int .i64 now ∧ f 17 = .int .i64 u ∧ f 18 = .int .i64 ct ∧ f 19 = .int .i64 k ∧ f 20 = .pointer (some ⟨ob, 0, none⟩) ∧ (∃ v2, f 21 = v2 ∧ wc.ownsRow w2.heap.size 3 1 v2 xs.length (xs.map (Value.int .i64))) ∧ Only [] w2 wc) ?rest1 ?first1
            case first1 =>
              intro J1 K1 hJ1 hK1
              obtain ⟨i1, hi1, hz0, hz1, hz2⟩ := info_parts info_int
              have hnil := World.ownsRow_nil w2 w2.heap.size 3 1
              rcases HNV.out with hv | ⟨a, l, c, hv⟩
              · obtain ⟨rfl, hx0, rfl⟩ : va = none ∧ xs.length = 0 ∧ vcap = 0 := by simpa using hv
                obtain rfl : xs = [] := List.eq_nil_of_length_eq_zero hx0
                go_wp2_with (at_builtin; refine wpList_append_own_none rfl _ (.tmp 140) 40 rfl w2.heap.size 3 i1 1 Try.underlying40 hi1 (.slice none 0 0) 0 [] rfl hnil rfl ?_)
                refine Met.intro (hJ1 _ _ rfl ?_)
                exact ⟨⟨rfl, rfl, rfl, rfl, rfl, rfl⟩, rfl, rfl, rfl, rfl, rfl, rfl, ⟨_, rfl, hnil⟩, Only.refl _ _⟩
              · obtain ⟨rfl, _, _⟩ : va = some a ∧ xs.length = l ∧ vcap = c := by simpa using hv
                have hnews : ∀ j z, (xs.map (Value.int .i64))[j]? = some z → w2.cell? (a.add j) = some z := by
                  intro j z hz
                  obtain ⟨_, _, he, h⟩ := HRD2.out
                  cases he
                  rcases h with h | ⟨b, o, he, _, hc⟩
                  · subst h; simp at hz
                  · cases he
                    rw [Addr.add_lit]
                    have hj : j < xs.length := by have := (List.getElem?_eq_some_iff.1 hz).1; simpa using this
                    rw [hc j hj]
                    simp [List.getElem?_eq_getElem hj] at hz
                    simp [List.getElem?_eq_getElem hj, List.getD, hz]
                have HN := Lib.hid hnews
                have hlen : (xs.map (Value.int .i64)).length = xs.length := by simp
                have HLN := Lib.hid hlen
                have HNIL := Lib.hid hnil
                clear hnews hlen hnil p0
                go_wp2_with (at_builtin; refine wpList_append_own _ rfl _ (.tmp 140) 40 rfl w2.heap.size 3 i1 _ 1 8 Try.underlying40 hi1 hz0 hz1 hz2 rfl (by decide) (.slice none 0 0) 0 [] rfl HNIL.out a xs.length _ (xs.map (Value.int .i64)) rfl (by rw [HLN.out, Nat.mul_one]) HN.out (fun u hu => by simp at hu; obtain ⟨x, _, rfl⟩ := hu; rfl) (by unfold maxLen; omega) (by omega) (Nat.le_refl _) ?_)
                intro v' w5' hown5 hg5 _
                have hX5 : Only [] w2 w5' := Only.of_grown hg5 (by intro k hk; simp [Value.ownBlock] at hk)
                have HOW := Lib.hid hown5
                clear hown5 hg5
                go_wp2_with fail
                refine Met.intro (hJ1 _ _ rfl ?_)
                exact ⟨⟨rfl, rfl, rfl, rfl, rfl, rfl⟩, rfl, rfl, rfl, rfl, rfl, rfl, ⟨_, rfl, by have := HOW.out; simpa using this⟩, hX5⟩
            case rest1 =>
              intro f w3 hcut
              obtain ⟨F, h15, h16, h17, h18, h19, h20, ⟨v2, h21, hown2⟩, hO3⟩ := hcut
              obtain ⟨fl, hfl⟩ : ∃ l, frameOf f 477 = l := ⟨_, rfl⟩
              rw [hfl]
              rw [frame477, F.f0, F.f1, F.f5, F.f7, F.f9, F.f10, h15, h16, h17, h18, h19, h20, h21] at hfl
              subst hfl
              clear F h15 h16 h17 h18 h19 h20 h21
              have hM3 := HM2.out.plain hO3
              replace p0 := keep_cell hO3 p0
              replace q1 := keep_cell hO3 q1
              replace q2 := keep_cell hO3 q2
              replace q3 := keep_cell hO3 q3
              have hrd3 := HRD2.out.only hO3 (by simp)
              have hob3 : ob < w3.heap.size := Nat.lt_of_lt_of_le HOBB.out.lt hO3.size
              have hg3 : g < w3.heap.size := Nat.lt_of_lt_of_le hgs hO3.size
              have hzb : ∀ i, i ∈ L → ∀ q, q ∈ blockOf (Z i).v → q < w2.heap.size := fun i hi q hq => ((HM2.out.ch.ent i hi).2.2.2 q hq).2
              have hgz2 : g < w2.heap.size := hgs
              have hbz2 : base ≤ w2.heap.size := HM2.out.ch.high
              have hob2 : ob < w2.heap.size := HOBB.out.lt
              have HOB2 := Lib.hid hob2
              have HGZ2 := Lib.hid hgz2
              have HBZ2 := Lib.hid hbz2
              have HZB := Lib.hid hzb
              have HM3 := Lib.hid hM3
              have HB3 := Lib.hid (HB2.out.trans hO3)
              have HRD3 := Lib.hid hrd3
              have hcell3 : ∀ k i c x, L[k]? = some i → c < 4 → (vcell S sv i)[c]? = some x → w3.cell? ⟨g, k * 4 + c, none⟩ = some x := fun k i c x h1 h2 h3 => keep_cell hO3 (HC.out k i c x h1 h2 h3)
              have HC3 := Lib.hid hcell3
              have HOWN2 := Lib.hid hown2
              obtain ⟨ad2, cap2, rfl⟩ := own_slice hown2
              clear hM3 hrd3 hzb hgz2 hbz2 hob2 hcell3 hown2 hO3 HM2 HB2 HRD2 HC hgs HOBB HGF
              generalize w2.heap.size = z2 at *
              clear w2
              go_upto_if 148 with fail
              refine wp_cut_f 477 [] (fun f wc => FrK A X Y cb n (some ⟨sb, so, none⟩) N sc f ∧ f 15 = .slice (some ⟨g, 0, none⟩) L.length lcap ∧ f 16 = .int .i64 now ∧ f 17 = .int .i64 u ∧ f 18 = .int .i64 ct ∧ f 19 = .int .i64 k ∧ f 20 = .pointer (some ⟨ob, 0, none⟩) ∧ f 21 = .slice ad2 xs.length cap2 ∧ wc = w3 ∧ ∃ old : Int, f 22 = .int .i64 old) ?rest2 ?first2
              case first2 =>
                intro J1 K1 hJ1 hK1
                by_cases ho : oo = 0
                · subst ho
                  go_wp2_with fail
                  refine Met.intro (hJ1 _ _ rfl ?_)
                  exact ⟨⟨rfl, rfl, rfl, rfl, rfl, rfl⟩, rfl, rfl, rfl, rfl, rfl, rfl, rfl, rfl, _, rfl⟩
                · have hne : (oo != 0) = true := by simpa using ho
                  clear ho
                  go_wp2_with fail
                  refine Met.intro (hJ1 _ _ rfl ?_)
                  exact ⟨⟨rfl, rfl, rfl, rfl, rfl, rfl⟩, rfl, rfl, rfl, rfl, rfl, rfl, rfl, rfl, _, rfl⟩
              case rest2 =>
                intro f w4 hcut
                obtain ⟨F, h15, h16, h17, h18, h19, h20, h21, hw4, old, h22⟩ := hcut
                obtain ⟨fl, hfl⟩ : ∃ l, frameOf f 477 = l := ⟨_, rfl⟩
                rw [hfl]
                rw [frame477, F.f0, F.f1, F.f5, F.f7, F.f9, F.f10, h15, h16, h17, h18, h19, h20, h21, h22] at hfl
                subst hfl
                subst hw4
                clear F h15 h16 h17 h18 h19 h20 h21 h22
                have hlown := HOWN2.out.lt
                have hR2 := Reads.of_own HOWN2.out
                have hbl2 : ∀ q, q ∈ blockOf (.slice ad2 xs.length cap2) → z2 ≤ q ∧ q < w4.heap.size := fun q hq => hlown q (blockOf_own HOWN2.out q hq)
                have hRA : ∀ q, q ∈ blockOf (.slice ad2 xs.length cap2) → q ∉ A.all ∧ q ∉ X.all := fun q hq => by
                  have h1 := (hbl2 q hq).1
                  have h2 := HBZ2.out
                  exact ⟨fun hm => by have := HLOW.out.1 q hm; omega, fun hm => by have := HLOW.out.2.1 q hm; omega⟩
                have HBL2 := Lib.hid hbl2
                have HAX := Lib.hid (show ∀ q, q ∈ A.all ++ X.all → q < base ∧ w.heap.size ≤ q from fun q hq => by
                  rcases List.mem_append.1 hq with h | h
                  · exact ⟨HLOW.out.1 q h, HNEW.out.1 q h⟩
                  · exact ⟨HLOW.out.2.1 q h, HNEW.out.2.1 q h⟩)
                have husd := HM3.out.used
                have hlu := HM3.out.lu
                cases fs with
                | nil =>
                  have hun : u = n := by simpa using husd
                  subst hun
                  have HT := Lib.hid (ch_push_full HM3.out.ch oa k 0 0 old (.slice ad2 xs.length cap2))
                  clear husd hlu hR2 hbl2 hRA hlown
                  go_wp2_with fail
                  refine HT.out.mono ?_
                  rintro e w5' ⟨rfl, hO5⟩
                  have HM5 := Lib.hid (HM3.out.plain hO5)
                  have HB5 := Lib.hid (HB3.out.trans hO5)
                  clear HT hO5 p0 q1 q2 q3
                  go_wp2_with fail
                  refine Met.intro (hJC _ _ rfl ?_)
                  exact ⟨⟨rfl, rfl, rfl, rfl, rfl, rfl⟩, rfl, S, t, [], now, Z, L, _, sv, u, ct, rfl, rfl, rfl, rfl, by omega, HM5.out.later (by omega) (by omega), HB5.out⟩
                | cons i r =>
                  have hun : u < n := by simp at husd; omega
                  have hune : ((u : Int) == n) = false := by simp; omega
                  have hiL := HM3.out.ch.free i (by simp)
                  have hrng := HM3.out.ch.rng i (by simp)
                  have hgen := HM3.out.ch.gens i
                  have hLn2 : L.length < n := by omega
                  have HILN := Lib.hid hiL
                  by_cases hold : hdOf S L = old
                  · have HT := Lib.hid (ch_push_ok HM3.out.ch oa k 0 0 (.slice ad2 xs.length cap2) xs hR2 hRA (by omega) (by omega) hLn2)
                    have hh0 : (wd i ((S i).gen + 1) != 0) = true := by simp; unfold wd; omega
                    rw [hold] at HT
                    have hp0 : w4.cell? ⟨g, 0, none⟩ = some (.int .i64 old) := by rw [p0, ← hhd0, hold]
                    have HPU := Lib.hid (fun (T : List Nat) (w1 w2 w3 : World) (v' lv' : Value) o C o2 hT o3 ho => HM3.out.push (T := T) (w1 := w1) (w2 := w2) (w3 := w3) (v' := v') (lv' := lv') (a := oa) (b := k) (c := 0) (d := 0) (hd := old) (vs := .slice va xs.length vcap) (xs := xs) o C o2 hT o3 ho HRD3.out HBK.out)
                    have HONE := Lib.hid (show ∀ z, z ∈ vcs S sv L → z.oneCell' = true from fun z hz => by
                      unfold vcs at hz
                      obtain ⟨j, hj, hz⟩ := List.mem_flatMap.1 hz
                      obtain ⟨adj, capj, hvj, _⟩ := (HM3.out.svs j hj).1
                      unfold vcell at hz
                      rw [hvj] at hz
                      simp at hz
                      rcases hz with rfl | rfl | rfl | rfl <;> rfl)
                    generalize hnv : wd i ((S i).gen + 1) = nv at *
                    have HNV2 := Lib.hid hnv
                    have hk3 : k ≤ 200 := by omega
                    have hu3 : u ≤ 200 := by omega
                    clear hnv husd hlu hR2 hbl2 hRA hlown hold hhd0 p0 hiL hrng hgen
                    go_wp2_with fail
                    refine HT.out.mono ?_
                    rintro e w5' ⟨rfl, v', hC5, hO5, hv5⟩
                    have hax : ∀ q, q ∈ A.all ++ X.all → q < base := fun q hq => (HAX.out q hq).1
                    have hx0 := (hO5.cell (p := ⟨g, 0, none⟩) hg3 (fun hm => by have := hax _ hm; have := HGB.out; simp only at *; omega)).trans hp0
                    have hx1 := (hO5.cell (p := ⟨ob, 1, none⟩) hob3 (fun hm => by have := hax _ hm; have := HOB.out.1; simp only at *; omega)).trans q1
                    have hx3 := (hO5.cell (p := ⟨ob, 3, none⟩) hob3 (fun hm => by have := hax _ hm; have := HOB.out.1; simp only at *; omega)).trans q3
                    have hown5 := own_only HOWN2.out hO5 (fun q hq hm => by have := hax _ hm; have := (HOWN2.out.lt q hq).1; have := HBZ2.out; omega)
                    have hrs5 := HRD3.out.low hO5 HBK.out (fun q hq => (HAX.out q hq).2)
                    have hcell5 : ∀ j z, (vcs S sv L)[j]? = some z → w5'.cell? ⟨g, j, none⟩ = some z := fun j z hz => by
                      have := HM3.out.own.cells (g := g) rfl j z hz
                      rw [Addr.add_lit, Nat.zero_add] at this
                      exact (hO5.cell (p := ⟨g, j, none⟩) hg3 (fun hm => by have := hax _ hm; have := HGB.out; simp only at *; omega)).trans this
                    have hob5 : ob < w5'.heap.size := Nat.lt_of_lt_of_le hob3 hO5.size
                    have hg5 : g < w5'.heap.size := Nat.lt_of_lt_of_le hg3 hO5.size
                    have HINTS := Lib.hid (runs_ints _ _ xs w5' (Reads.of_own hown5) hrs5 (by omega))
                    have HOWN5 := Lib.hid hown5
                    have HCELL5 := Lib.hid hcell5
                    have HC5 := Lib.hid hC5
                    have HO5 := Lib.hid hO5
                    have HV5 := Lib.hid hv5
                    have HB5 := Lib.hid (HB3.out.past hO5 (fun q hq => Or.inr (HAX.out q hq).2))
                    have hz45 := hO5.size
                    have HZ45 := Lib.hid hz45
                    clear HT hC5 hO5 hv5 hax hown5 hrs5 hcell5 hp0 q1 q2 q3 HM3 hz45
                    go_wp2_with fail
                    refine HINTS.out.mono ?_
                    rintro e w6 ⟨rfl, hO6⟩
                    replace hx1 := keep_cell hO6 hx1
                    replace hx3 := keep_cell hO6 hx3
                    have HOWN6 := Lib.hid (own_only HOWN5.out hO6 (by simp))
                    have HO6 := Lib.hid hO6
                    have hob6 : ob < w6.heap.size := Nat.lt_of_lt_of_le hob5 hO6.size
                    have hg6 : g < w6.heap.size := Nat.lt_of_lt_of_le hg5 hO6.size
                    clear HINTS hO6 HOWN5 hx0
                    go_wp2_with fail
                    go_loopg [26] xs.length (fun g' s26 wl => ∃ b : Nat, b + g' = xs.length ∧ s26 = .int .i64 b ∧ (∃ ys, wl.ownsRow z2 3 1 (.slice ad2 xs.length cap2) xs.length ys) ∧ Only (blockOf (.slice ad2 xs.length cap2)) w6 wl)
                    case atStart => exact ⟨0, by omega, rfl, ⟨_, HOWN6.out⟩, Only.refl _ _⟩
                    case round =>
                      obtain ⟨b, hb, rfl, ⟨ys, hown⟩, hOl⟩ := hrel
                      have HBQ := Lib.hid hb
                      have HOW := Lib.hid hown
                      have HOL := Lib.hid hOl
                      by_cases hbl : b < xs.length
                      · obtain ⟨gz, uz, rfl, hgz1, hgz2, hgz3, hcz, hfz, _⟩ := own_place hown hbl
                        have hbi : (b : Int) < xs.length := by omega
                        have hb1 : (b : Int) ≤ 100000 := by omega
                        clear hb hown hOl hx1 hx3
                        go_wp2_with fail
                        go_roundg (gk - 1)
                        case measure => have := HBQ.out; omega
                        case rel => exact ⟨b + 1, by have := HBQ.out; omega, by go_num, own_any_set HOW.out b _, HOL.out.trans (Only.setCell _ (by simp [blockOf]) _)⟩
                      · have hbn : b = xs.length := by omega
                        subst hbn
                        have hlb : ∀ q, q ∈ blockOf (.slice ad2 xs.length cap2) → z2 ≤ q := fun q hq => (HBL2.out q hq).1
                        have hobn : ob ∉ blockOf (.slice ad2 xs.length cap2) := fun hm => by have := hlb _ hm; have := HOB2.out; omega
                        have hgn : g ∉ blockOf (.slice ad2 xs.length cap2) := fun hm => by have := hlb _ hm; have := HGZ2.out; omega
                        have r1 := (hOl.cell (p := ⟨ob, 1, none⟩) hob6 hobn).trans hx1
                        have r3 := (hOl.cell (p := ⟨ob, 3, none⟩) hob6 hobn).trans hx3
                        have HCL := Lib.hid (show ∀ j z, (vcs S sv L)[j]? = some z → wr.cell? ⟨g, j, none⟩ = some z from fun j z hz => (hOl.cell (p := ⟨g, j, none⟩) hg6 hgn).trans ((HO6.out.cell (p := ⟨g, j, none⟩) hg5 (by simp)).trans (HCELL5.out j z hz)))
                        obtain ⟨i2, hi2, hz20, hz21, hz22⟩ := info_parts info_version
                        have hgl : g < wr.heap.size := Nat.lt_of_lt_of_le hg6 hOl.size
                        have HGL := Lib.hid hgl
                        have HVL := Lib.hid (vcs_length S sv L)
                        clear hb hown hOl hx1 hx3 hlb hobn hgn
                        go_wp2_with (at_builtin; refine wpList_append_own _ rfl (.tmp 219) (.tmp 220) 43 rfl wr.heap.size 42 i2 _ 4 48 Try.underlying43 hi2 hz20 hz21 hz22 rfl (by decide) _ 1 [.int .i64 nv, .int .i64 oa, .int .i64 now, .slice va xs.length vcap] rfl (World.ownsRow_lit wr #[.int .i64 nv, .int .i64 oa, .int .i64 now, .slice va xs.length vcap] 1 (Nat.le_refl _) (by decide) rfl) ⟨g, 0, none⟩ L.length _ (vcs S sv L) rfl HVL.out (fun j z hz => by rw [Addr.add_lit, Nat.zero_add]; exact ((Only.alloc [] wr _).cell (p := ⟨g, j, none⟩) HGL.out (by simp)).trans (HCL.out j z hz)) HONE.out (by unfold maxLen; omega) (by omega) (by simp) ?_)
                        intro vl w7 hown7 hg7 _
                        have hX7 : Only [] wr w7 := (Only.alloc [] wr _).past (Only.of_grown hg7 (S := [wr.heap.size]) (by intro k hk; simpa [Value.ownBlock] using hk.symm)) (by simp)
                        have hM7 := HPU.out (blockOf (.slice ad2 xs.length cap2)) w5' wr w7 v' vl HO5.out HC5.out ((HO6.out.mono (by simp)).trans HOL.out) (fun q hq => by
                          have h1 := HBL2.out q hq
                          have h2 := HBZ2.out
                          refine ⟨by omega, fun j hj hm => ?_⟩
                          by_cases hji : j = i
                          · subst hji
                            rw [upE_same] at hm
                            have := HV5.out q hm
                            omega
                          · have hjL : j ∈ L := by rcases List.mem_cons.1 hj with h | h; exact absurd h hji; exact h
                            rw [upE_other Z _ hji] at hm
                            have := HZB.out j hjL q hm
                            omega) hX7 hown7
                        have HM7 := Lib.hid hM7
                        have HB7 := Lib.hid (((HB5.out.trans HO6.out).past HOL.out (fun q hq => Or.inr (by have h1 := (HBL2.out q hq).1; have h2 := HBZ2.out; have h3 := HNEW.out.2.2.2.2; omega))).trans hX7)
                        clear hown7 hg7 hM7 hX7
                        go_wp2_with fail
                        refine Met.intro (hJC _ _ rfl ?_)
                        exact ⟨⟨rfl, rfl, rfl, rfl, rfl, rfl⟩, rfl, _, _, r, now, _, i :: L, _, _, u + 1, ct, rfl, rfl, by show Value.int .i64 _ = _; go_num, rfl, by omega, HM7.out, HB7.out⟩
                  · have HT := Lib.hid (ch_push_no HM3.out.ch oa k 0 0 old hold (.slice ad2 xs.length cap2) xs hR2 hRA (by omega) (by omega))
                    have hne0 : (old == wd i0 (S i0).gen) = false := by
                      simp
                      intro he
                      exact hold (by rw [hhd0, he])
                    have hiL2 : ∀ j, j ∈ L → j ≠ i := fun j hj e => hiL.1 (e ▸ hj)
                    have HTU := Lib.hid (fun (w1 : World) (v' : Value) (o : Only (A.all ++ X.all) w4 w1) C => HM3.out.turned (S' := upS S i (poisoned ((S i).gen + 2))) (t' := t + 2) (now' := now) (ls' := [0]) (Z' := upE Z i ⟨wd i ((S i).gen + 1), v', xs⟩) (m' := k + 1 + 1) o (fun q hq => by rcases List.mem_append.1 hq with h | h; exact Or.inl h; exact Or.inr (Or.inl h)) C (fun j hj => upS_other S (poisoned ((S i).gen + 2)) (hiL2 j hj)) (fun j hj => upE_other Z _ (hiL2 j hj)) rfl)
                    have HIL2 := Lib.hid hiL2
                    have hk3 : k ≤ 200 := by omega
                    generalize hgv : wd i0 (S i0).gen = hv0 at *
                    have HGV := Lib.hid hgv
                    clear hgv husd hlu hR2 hbl2 hRA hlown hold hhd0 hiL hrng hgen hiL2
                    go_wp2_with fail
                    refine HT.out.mono ?_
                    rintro e w5' ⟨rfl, v', hC5, hO5⟩
                    have hax : ∀ q, q ∈ A.all ++ X.all → q < base := fun q hq => (HAX.out q hq).1
                    have hx0 := (hO5.cell (p := ⟨g, 0, none⟩) hg3 (fun hm => by have := hax _ hm; have := HGB.out; simp only at *; omega)).trans p0
                    have hx1 := (hO5.cell (p := ⟨ob, 1, none⟩) hob3 (fun hm => by have := hax _ hm; have := HOB.out.1; simp only at *; omega)).trans q1
                    have hx3 := (hO5.cell (p := ⟨ob, 3, none⟩) hob3 (fun hm => by have := hax _ hm; have := HOB.out.1; simp only at *; omega)).trans q3
                    have hown5 := own_only HOWN2.out hO5 (fun q hq hm => by have := hax _ hm; have := (HOWN2.out.lt q hq).1; have := HBZ2.out; omega)
                    have hrs5 := HRD3.out.low hO5 HBK.out (fun q hq => (HAX.out q hq).2)
                    have HINTS := Lib.hid (runs_ints _ _ xs w5' (Reads.of_own hown5) hrs5 (by omega))
                    have HOWN5 := Lib.hid hown5
                    have HM5 := Lib.hid (HTU.out w5' v' hO5 hC5)
                    have HB5 := Lib.hid (HB3.out.past hO5 (fun q hq => Or.inr (HAX.out q hq).2))
                    clear HT HTU hC5 hO5 hax hown5 hrs5 p0 q1 q2 q3 HM3
                    go_wp2_with fail
                    refine HINTS.out.mono ?_
                    rintro e w6 ⟨rfl, hO6⟩
                    have HOWN6 := Lib.hid (own_only HOWN5.out hO6 (by simp))
                    have HM6 := Lib.hid (HM5.out.plain hO6)
                    have HB6 := Lib.hid (HB5.out.trans hO6)
                    clear HINTS hO6 HOWN5 hx0 hx1 hx3 HM5 HB5
                    go_wp2_with fail
                    go_loopg [26] xs.length (fun g' s26 wl => ∃ b : Nat, b + g' = xs.length ∧ s26 = .int .i64 b ∧ (∃ ys, wl.ownsRow z2 3 1 (.slice ad2 xs.length cap2) xs.length ys) ∧ Only (blockOf (.slice ad2 xs.length cap2)) w6 wl)
                    case atStart => exact ⟨0, by omega, rfl, ⟨_, HOWN6.out⟩, Only.refl _ _⟩
                    case round =>
                      obtain ⟨b, hb, rfl, ⟨ys, hown⟩, hOl⟩ := hrel
                      have HBQ := Lib.hid hb
                      have HOW := Lib.hid hown
                      have HOL := Lib.hid hOl
                      by_cases hbl : b < xs.length
                      · obtain ⟨gz, uz, rfl, hgz1, hgz2, hgz3, hcz, hfz, _⟩ := own_place hown hbl
                        have hbi : (b : Int) < xs.length := by omega
                        have hb1 : (b : Int) ≤ 100000 := by omega
                        clear hb hown hOl
                        go_wp2_with fail
                        go_roundg (gk - 1)
                        case measure => have := HBQ.out; omega
                        case rel => exact ⟨b + 1, by have := HBQ.out; omega, by go_num, own_any_set HOW.out b _, HOL.out.trans (Only.setCell _ (by simp [blockOf]) _)⟩
                      · have hbn : b = xs.length := by omega
                        subst hbn
                        have hM7 := HM6.out.off hOl (fun q hq => by
                          have h1 := HBL2.out q hq
                          have h2 := HBZ2.out
                          refine ⟨by omega, fun j hj hm => ?_, fun he => ?_⟩
                          · rw [upE_other Z _ (HIL2.out j hj)] at hm
                            have := HZB.out j hj q hm
                            omega
                          · simp [Value.ownBlock] at he
                            have := HGZ2.out
                            omega)
                        have HM7 := Lib.hid hM7
                        have HB7 := Lib.hid (HB6.out.past hOl (fun q hq => Or.inr (by have h1 := (HBL2.out q hq).1; have h2 := HBZ2.out; have h3 := HNEW.out.2.2.2.2; omega)))
                        clear hb hown hOl hM7
                        go_wp2_with fail
                        refine Met.intro (hJC _ _ rfl ?_)
                        exact ⟨⟨rfl, rfl, rfl, rfl, rfl, rfl⟩, rfl, _, _, i :: r, now, _, L, _, _, u, ct, rfl, rfl, rfl, rfl, by omega, HM7.out, HB7.out⟩
          · have hd : 50 < (xs.length : Int) := by omega
            clear hx
            go_wp2_with fail
            refine Met.intro (hJC _ _ rfl ?_)
            exact ⟨⟨rfl, rfl, rfl, rfl, rfl, rfl⟩, rfl, S, t, fs, now, Z, L, _, sv, u, ct, rfl, rfl, rfl, rfl, by omega, HM2.out.later (by omega) (by omega), HB2.out⟩
          --END1
        by_cases h2 : kd = 2
        · subst h2
          --ARM2
          have p0 : w2.cell? ⟨g, 0, none⟩ = some (.int .i64 (wd i0 (S i0).gen)) := by have := HC.out 0 i0 0 _ HI0.out (by decide) rfl; simpa using this
          have p2 : w2.cell? ⟨g, 2, none⟩ = some (.int .i64 (S i0).mark) := by have := HC.out 0 i0 2 _ HI0.out (by decide) rfl; simpa using this
          have HT := Lib.hid (ch_top0 HM2.out.ch HI0.out)
          clear h1
          generalize wd i0 (S i0).gen = hv0 at *
          generalize (S i0).mark = mk0 at *
          go_wp2_with fail
          refine HT.out.mono ?_
          rintro e w' ⟨rfl, rfl⟩
          go_wp2_with fail
          refine Met.intro (hJC _ _ rfl ?_)
          exact ⟨⟨rfl, rfl, rfl, rfl, rfl, rfl⟩, rfl, S, t, fs, now, Z, L, _, sv, u, ct, rfl, rfl, rfl, rfl, by omega, HM2.out.later (by omega) (by omega), HB2.out⟩
          --END2
        by_cases h3 : kd = 3
        · subst h3
          --ARM3
          have HT := Lib.hid (ch_at HM2.out.ch HM2.out.ne oa)
          have HA := Lib.hid (show atAns S oa L = ((atAns S oa L).1, (atAns S oa L).2) from rfl)
          have HA0 := Lib.hid (show atAns S oa L = atAns S oa (L.drop 0) from rfl)
          clear h1 h2
          generalize (atAns S oa L).1 = a1 at *
          generalize (atAns S oa L).2 = a2 at *
          go_wp2_with fail
          refine HT.out.mono ?_
          rintro e w' ⟨rfl, rfl⟩
          clear HT
          go_wp2_with fail
          go_loopg [32] L.length (fun g' s32 wl => ∃ j : Nat, j + g' = L.length ∧ s32 = .int .i64 j ∧ atAns S oa L = atAns S oa (L.drop j) ∧ Only [] w2 wl)
          case atStart => exact ⟨0, by omega, rfl, HA0.out, Only.refl _ _⟩
          case round =>
            obtain ⟨j, hj, rfl, hans, hOl⟩ := hrel
            have HJ := Lib.hid hj
            have HANS := Lib.hid hans
            have r1 : wr.cell? ⟨ob, 1, none⟩ = some (.int .i64 oa) := keep_cell hOl q1
            have hMl := HM2.out.plain hOl
            have hBl := HB2.out.trans hOl
            have HML := Lib.hid hMl
            have HBL := Lib.hid hBl
            have HOL := Lib.hid hOl
            clear hans hMl hBl hOl q0 q1 q2 q3
            by_cases hjl : j < L.length
            · obtain ⟨i, hi⟩ : ∃ i, L[j]? = some i := ⟨_, List.getElem?_eq_getElem hjl⟩
              have hji : (j : Int) < L.length := by omega
              have p0 : wr.cell? ⟨g, j * 4, none⟩ = some (.int .i64 (wd i (S i).gen)) := keep_cell HOL.out (HC.out j i 0 _ hi (by decide) rfl)
              have p2 : wr.cell? ⟨g, j * 4 + 2, none⟩ = some (.int .i64 (S i).mark) := keep_cell HOL.out (HC.out j i 2 _ hi (by decide) rfl)
              have HI := Lib.hid hi
              clear hj hi
              by_cases hmk : (S i).mark ≤ oa
              · have hd : decide (oa < (S i).mark) = false := by simp; omega
                have hY := (HA.out.symm.trans HANS.out).trans (atAns_yes HI.out hmk)
                obtain ⟨rfl, rfl⟩ := Prod.mk.injEq _ _ _ _ ▸ hY
                have hjn : ((j : Int) == L.length) = false := by simp; omega
                clear hmk HA HANS HA0 hY
                generalize wd i (S i).gen = hv at *
                generalize (S i).mark = mk at *
                go_wp2_with fail
                go_quiet (fail)
                have p0' := keep_cell (Only.drewN [] wr nq) p0
                go_wp2_with fail
                refine Met.intro (hJC _ _ rfl ?_)
                exact ⟨⟨rfl, rfl, rfl, rfl, rfl, rfl⟩, rfl, S, t, fs, now, Z, L, _, sv, u, ct, rfl, rfl, rfl, rfl, by omega, (HML.out.plain (Only.drewN [] _ _)).later (by omega) (by omega), HBL.out.trans (Only.drewN [] _ _)⟩
              · have hd : oa < (S i).mark := by omega
                have HN := Lib.hid (atAns_no HI.out hmk)
                clear hmk
                generalize (S i).mark = mk at *
                go_wp2_with fail
                go_quiet (fail)
                go_wp2_with fail
                go_roundg (gk - 1)
                case measure => have := HJ.out; omega
                case rel => exact ⟨j + 1, by have := HJ.out; omega, by go_num, by rw [HANS.out, HN.out], HOL.out.trans (Only.drewN [] _ _)⟩
            · have hjn : j = L.length := by omega
              have hY := HA.out.symm.trans HANS.out
              rw [hjn, List.drop_length] at hY
              obtain ⟨rfl, rfl⟩ := Prod.mk.injEq _ _ _ _ ▸ (show (a1, a2) = (0, 141) from hY)
              subst hjn
              clear hj hY HANS HA HA0
              go_wp2_with fail
              go_quiet (fail)
              go_wp2_with fail
              refine Met.intro (hJC _ _ rfl ?_)
              exact ⟨⟨rfl, rfl, rfl, rfl, rfl, rfl⟩, rfl, S, t, fs, now, Z, L, _, sv, u, ct, rfl, rfl, rfl, rfl, by omega, (HML.out.plain (Only.drewN [] _ _)).later (by omega) (by omega), HBL.out.trans (Only.drewN [] _ _)⟩
          --END3
        by_cases h4 : kd = 4
        · subst h4
          --ARM4
          clear h1 h2 h3
          by_cases ha : 0 ≤ oa ∧ oa < L.length
          · obtain ⟨ha0, ha1⟩ := ha
            obtain ⟨a, rfl⟩ : ∃ a : Nat, oa = a := ⟨oa.toNat, by omega⟩
            have hal : a < L.length := by omega
            obtain ⟨i, hi⟩ : ∃ i, L[a]? = some i := ⟨_, List.getElem?_eq_getElem hal⟩
            have p0 : w2.cell? ⟨g, a * 4, none⟩ = some (.int .i64 (wd i (S i).gen)) := HC.out a i 0 _ hi (by decide) rfl
            have p3 : w2.cell? ⟨g, a * 4 + 3, none⟩ = some (sv i) := HC.out a i 3 _ hi (by decide) rfl
            have hd1 : decide ((a : Int) < 0) = false := by simp
            have hd2 : decide ((L.length : Int) ≤ a) = false := by simp; omega
            have HAX := Lib.hid (show ∀ q, q ∈ A.all ++ X.all → q < base ∧ w.heap.size ≤ q from fun q hq => by
              rcases List.mem_append.1 hq with h | h
              · exact ⟨HLOW.out.1 q h, HNEW.out.1 q h⟩
              · exact ⟨HLOW.out.2.1 q h, HNEW.out.2.1 q h⟩)
            by_cases hlast : L.length = a + 1
            · have HT := Lib.hid (ch_cut_last HM2.out.ch hi hlast)
              have he : (L.length : Int) - 1 = a := by omega
              have HI := Lib.hid hi
              clear hi hlast
              generalize wd i (S i).gen = hv at *
              go_wp2_with fail
              refine HT.out.mono ?_
              rintro e w3 ⟨rfl, hC3, hO3⟩
              have hM3 := HM2.out.turned hO3 (fun k hk => by rcases List.mem_append.1 hk with h | h; exact Or.inl h; exact Or.inr (Or.inl h)) hC3 (fun _ _ => rfl) (fun _ _ => rfl) rfl
              have hB3 := HB2.out.past hO3 (fun k hk => Or.inr (HAX.out k hk).2)
              have q1' := (hO3.cell (p := ⟨ob, 1, none⟩) HOBB.out.lt (fun hm => by have := (HAX.out _ hm).1; have := HOB.out.1; simp only at *; omega)).trans q1
              have HM3 := Lib.hid hM3
              have HB3 := Lib.hid hB3
              clear HT hC3 hO3 hM3 hB3 p0 p3 q0 q1 q2 q3
              go_wp2_with fail
              refine Met.intro (hJC _ _ rfl ?_)
              exact ⟨⟨rfl, rfl, rfl, rfl, rfl, rfl⟩, rfl, S, t, fs, now, Z, L, _, sv, u, ct, rfl, rfl, rfl, rfl, by omega, HM3.out.later (by omega) (by omega), HB3.out⟩
            · have hal2 : a + 1 < L.length := by omega
              obtain ⟨j, hj⟩ : ∃ j, L[a + 1]? = some j := ⟨_, List.getElem?_eq_getElem hal2⟩
              have p4 : w2.cell? ⟨g, (a + 1) * 4, none⟩ = some (.int .i64 (wd j (S j).gen)) := HC.out (a + 1) j 0 _ hj (by decide) rfl
              have HT := Lib.hid (ch_cut HM2.out.ch hi hj)
              have hiL : i ∈ L := List.mem_of_getElem? hi
              have hmine := HM2.out.ch.mine i hiL
              have hent := HM2.out.ch.ent i hiL
              have hsv := HM2.out.svs i hiL
              obtain ⟨ad, cap, hzv⟩ := own_slice hmine
              have hgz : g ∉ blockOf (Z i).v := HM2.out.apart g rfl i hiL
              have hoz : ob ∉ blockOf (Z i).v := HOB.out.2.1 i hiL
              have he : (((a : Int) == (L.length : Int) - 1) = false) := by simp; omega
              have HCUT := Lib.hid (fun w1 w2' o C o2 => HM2.out.cut (w1 := w1) (w2 := w2') hi o C o2 rfl)
              have HCT := Lib.hid hlast
              rw [hzv] at hmine hent hgz hoz HT
              have HMINE := Lib.hid hmine
              have HENT := Lib.hid hent
              have HSV := Lib.hid hsv
              have HGZ := Lib.hid hgz
              have HOZ := Lib.hid hoz
              have HZV := Lib.hid hzv
              have hzl := hent.2.2.1
              have hal3 : (a : Int) + 1 < L.length := by omega
              have hal4 : (a : Int) + 1 ≤ lcap := by omega
              have hsum : IntKind.i64.wrap ((a : Int) + 1) = (a : Int) + 1 := wraps_i64 _ (by omega) (by omega)
              have HSUM := Lib.hid hsum
              have htn : ((a : Int) + 1).toNat = a + 1 := by omega
              clear hmine hent hsv hgz hoz hzv hi hj hlast hsum
              generalize hhv : wd i (S i).gen = hv at *
              generalize wd j (S j).gen = hvj at *
              have HHV := Lib.hid hhv
              clear hhv
              generalize hls : (Z i).l = zl at *
              have HLS := Lib.hid hls
              clear hls
              go_wp2_with fail
              refine HT.out.mono ?_
              rintro e w3 ⟨rfl, hC3, hO3⟩
              have hb3 : ∀ q, q ∈ A.all ++ X.all → q < base := fun q hq => (HAX.out q hq).1
              have q1' := (hO3.cell (p := ⟨ob, 1, none⟩) HOBB.out.lt (fun hm => by have := hb3 _ hm; have := HOB.out.1; simp only at *; omega)).trans q1
              have p3' := (hO3.cell (p := ⟨g, a * 4 + 3, none⟩) hgs (fun hm => by have := hb3 _ hm; have := HGB.out; simp only at *; omega)).trans p3
              have p4' := (hO3.cell (p := ⟨g, (a + 1) * 4, none⟩) hgs (fun hm => by have := hb3 _ hm; have := HGB.out; simp only at *; omega)).trans p4
              have hf3 := (hO3.frozen (p := ⟨g, a * 4 + 3, none⟩) hgs (fun hm => by have := hb3 _ hm; have := HGB.out; simp only at *; omega)).trans (HGF.out (a * 4 + 3))
              have hrz := HENT.out.2.1.only hO3 (fun q hq hm => by have := hb3 _ hm; have := (HENT.out.2.2.2 q hq).1; omega)
              have hrs := HSV.out.1.low hO3 HSV.out.2 (fun q hq => (HAX.out q hq).2)
              have hown3 := own_only HMINE.out hO3 (fun q hq hm => by have := hb3 _ hm; have := (HMINE.out.lt q hq).1; omega)
              have HINTS := Lib.hid (runs_ints _ _ zl w3 hrz hrs (by omega))
              have hB3 := HB2.out.past hO3 (fun k hk => Or.inr (HAX.out k hk).2)
              have HC3 := Lib.hid hC3
              have HO3 := Lib.hid hO3
              have HB3 := Lib.hid hB3
              have HOWN3 := Lib.hid hown3
              have HF3 := Lib.hid hf3
              have hob3 : ob < w3.heap.size := Nat.lt_of_lt_of_le HOBB.out.lt hO3.size
              have hg3 : g < w3.heap.size := Nat.lt_of_lt_of_le hgs hO3.size
              clear HT hC3 hO3 hB3 hown3 hf3 hrz hrs hb3 p0 p3 p4 q0 q1 q2 q3
              go_wp2_with fail
              refine HINTS.out.mono ?_
              rintro e w4 ⟨rfl, hO4⟩
              have HO4 := Lib.hid hO4
              have q1 := keep_cell hO4 q1'
              have p3 := keep_cell hO4 p3'
              have hf4 := (hO4.frozen (p := ⟨g, a * 4 + 3, none⟩) hg3 (by simp)).trans HF3.out
              have HF4 := Lib.hid hf4
              have HOWN4 := Lib.hid (own_only HOWN3.out hO4 (by simp))
              have hob4 : ob < w4.heap.size := Nat.lt_of_lt_of_le hob3 hO4.size
              have hg4 : g < w4.heap.size := Nat.lt_of_lt_of_le hg3 hO4.size
              clear HINTS hO4 hf4 q1' p3' p4' HOWN3 HF3
              go_wp2_with fail
              go_loopg [36] zl.length (fun g' s36 wl => ∃ b : Nat, b + g' = zl.length ∧ s36 = .int .i64 b ∧ (∃ ys, wl.ownsRow base 3 1 (.slice ad zl.length cap) zl.length ys) ∧ Only (blockOf (.slice ad zl.length cap)) w4 wl)
              case atStart => exact ⟨0, by omega, rfl, ⟨_, HOWN4.out⟩, Only.refl _ _⟩
              case round =>
                obtain ⟨b, hb, rfl, ⟨ys, hown⟩, hOl⟩ := hrel
                have HBQ := Lib.hid hb
                have HOW := Lib.hid hown
                have HOL := Lib.hid hOl
                by_cases hbl : b < zl.length
                · obtain ⟨gz, uz, rfl, hgz1, hgz2, hgz3, hcz, hfz, _⟩ := own_place hown hbl
                  have hbi : (b : Int) < zl.length := by omega
                  have hb1 : (b : Int) ≤ 100000 := by omega
                  clear hb hown hOl p3 q1
                  go_wp2_with fail
                  go_roundg (gk - 1)
                  case measure => have := HBQ.out; omega
                  case rel => exact ⟨b + 1, by have := HBQ.out; omega, by go_num, own_any_set HOW.out b _, HOL.out.trans (Only.setCell _ (by simp [blockOf]) _)⟩
                · have hbn : b = zl.length := by omega
                  subst hbn
                  have r1 := (hOl.cell (p := ⟨ob, 1, none⟩) hob4 HOZ.out).trans q1
                  have r3 := (hOl.cell (p := ⟨g, a * 4 + 3, none⟩) hg4 HGZ.out).trans p3
                  have rf := (hOl.frozen (p := ⟨g, a * 4 + 3, none⟩) hg4 HGZ.out).trans HF4.out
                  have hsum := HSUM.out
                  clear hb hown hOl p3 q1
                  go_wp2_with fail
                  refine Met.intro (hJC _ _ rfl ?_)
                  have hMc := HCUT.out w3 _ HO3.out HC3.out (by rw [HZV.out]; exact ((HO4.out.mono (by simp)).trans HOL.out))
                  exact ⟨⟨rfl, rfl, rfl, rfl, rfl, rfl⟩, rfl, _, t, fs, now, _, _, _, _, u, ct + 1, rfl, rfl, rfl, by show Value.int .i64 _ = _; go_num, by omega, hMc.later (by omega) (by omega), (HB3.out.trans (HO4.out.trans (Only.refl _ _))).past ((HOL.out.mono (T := g :: blockOf (.slice ad zl.length cap)) (by intro q hq; simp [hq])).trans (Only.setCell _ (by simp) _)) (fun q hq => Or.inr (by
                    have hwb := HNEW.out.2.2.2.2
                    rcases List.mem_cons.1 hq with rfl | h
                    · have := HGB.out; omega
                    · have := (HENT.out.2.2.2 q h).1; omega))⟩
          · have hc : oa < 0 ∨ (decide (oa < 0) = false ∧ (L.length : Int) ≤ oa) := by
              by_cases h : oa < 0
              · exact Or.inl h
              · exact Or.inr ⟨by simp; omega, by omega⟩
            clear ha
            rcases hc with hc | ⟨hc1, hc2⟩
            all_goals
              go_wp2_with fail
              refine Met.intro (hJC _ _ rfl ?_)
              exact ⟨⟨rfl, rfl, rfl, rfl, rfl, rfl⟩, rfl, S, t, fs, now, Z, L, _, sv, u, ct, rfl, rfl, rfl, rfl, by omega, HM2.out.later (by omega) (by omega), HB2.out⟩
          --END4
        by_cases h5 : kd = 5
        · subst h5
          --ARM5
          have hone := HM2.out.ch.one
          have hk2 : k ≤ 200 := by omega
          have hsum : IntKind.i64.wrap (now + 1) = now + 1 := wraps_i64 _ (by omega) (by omega)
          have HS := Lib.hid hsum
          have HT := Lib.hid (ch_take HM2.out.ch (by omega))
          clear h1 h2 h3 h4 hsum
          go_wp2_with fail
          refine HT.out.mono ?_
          rintro e w3 ⟨rfl, hC3, hO3⟩
          have hM3 := HM2.out.turned hO3 (fun k hk => by simp at hk; omega) hC3 (fun _ _ => rfl) (fun _ _ => rfl) rfl
          have hB3 := HB2.out.past hO3 (fun k hk => Or.inr (by simp at hk; have := HNEW.out; omega))
          have HM3 := Lib.hid hM3
          have HB3 := Lib.hid hB3
          clear HT hC3 hO3 hM3 hB3
          go_upto_region 76 with fail
          refine wp_name (fun w4 => Mn w4 A X Y cb cq n S t fs (now + 1) [now + 1] Z L base (k + 1 + 1) w.heap.size (.slice (some ⟨g, 0, none⟩) L.length lcap) sv u ∧ Blk w4 w3.heap.size #[.int .i64 0, .int .i64 now] 52 ∧ Only [] w w4) ⟨HM3.out.plain (Only.alloc _ _ _), Blk.new _ _ _, HB3.out.trans (Only.alloc _ _ _)⟩ ?_
          rintro w4 ⟨hM4, hSB, hB4⟩
          have s0 := hSB.cell 0 rfl
          have s1 := hSB.cell 1 rfl
          have HR := Lib.hid (ch_release hM4.ch (by omega))
          have HM4 := Lib.hid hM4
          have HB4 := Lib.hid hB4
          clear hM4 hSB hB4 HM3 HB3
          generalize w3.heap.size = snb at *
          go_wp2_with fail
          refine HR.out.mono ?_
          rintro e w5 ⟨rfl, hC5, hO5⟩
          have hM5 := HM4.out.turned hO5 (fun k hk => by simp at hk; omega) hC5 (fun _ _ => rfl) (fun _ _ => rfl) rfl
          have hB5 := HB4.out.past hO5 (fun k hk => Or.inr (by simp at hk; have := HNEW.out; omega))
          have HM5 := Lib.hid hM5
          have HB5 := Lib.hid hB5
          have hsum := HS.out
          clear hM5 hB5 hC5 hO5 HR HM4 HB4
          go_wp2_with fail
          refine Met.intro (hJC _ _ rfl ?_)
          exact ⟨⟨rfl, rfl, rfl, rfl, rfl, rfl⟩, rfl, S, t, fs, now + 1, Z, L, _, sv, u, ct, rfl, rfl, rfl, rfl, by omega, HM5.out, HB5.out⟩
          --END5
        have d1 : (kd == 1) = false := beq_eq_false_iff_ne.2 h1
        have d2 : (kd == 2) = false := beq_eq_false_iff_ne.2 h2
        have d3 : (kd == 3) = false := beq_eq_false_iff_ne.2 h3
        have d4 : (kd == 4) = false := beq_eq_false_iff_ne.2 h4
        have d5 : (kd == 5) = false := beq_eq_false_iff_ne.2 h5
        clear h1 h2 h3 h4 h5
        --ARM6
        go_wp2_with fail
        refine Met.intro (hJC _ _ rfl ?_)
        exact ⟨⟨rfl, rfl, rfl, rfl, rfl, rfl⟩, rfl, S, t, fs, now, Z, L, _, sv, u, ct, rfl, rfl, rfl, rfl, by omega, HM2.out.later (by omega) (by omega), HB2.out⟩
        --END6
      case rest =>
        --ARM7
        intro f wc hcut
        obtain ⟨F, h19, S, t, fs, now, Z, L, lv, sv, u, ct, h15, h16, h17, h18, hct2, hM, hB⟩ := hcut
        obtain ⟨fl, hfl⟩ : ∃ l, frameOf f 477 = l := ⟨_, rfl⟩
        rw [hfl]
        rw [frame477, F.f0, F.f1, F.f5, F.f7, F.f9, F.f10, h15, h16, h17, h18, h19] at hfl
        subst hfl
        clear F h15 h16 h17 h18 h19
        clear HM2 HB2 HRD2 HGF HGB HI0 HOBB HC q0 q1 q2 q3 HOB hgs hgc hL0 hL0' hLn
        obtain ⟨g, lcap, rfl, hgb, hgs, hgc, hgf, hcell⟩ := hM.at
        have hLn : L.length ≤ 4096 := by have := hM.ch.len; omega
        have hfn : fs.length ≤ 4096 := by have := hM.used; omega
        have hun : u ≤ n := by have := hM.used; omega
        have hused : (fs.length : Int) = (n : Int) - u := by have := hM.used; omega
        have HU := Lib.hid hused
        obtain ⟨ZY, hY⟩ := hM.oth
        have HV := Lib.hid (ch_versions hM.ch)
        have HC := Lib.hid hcell
        have HM := Lib.hid hM
        have HB := Lib.hid hB
        have HY := Lib.hid hY
        clear hcell hM hB hgf hused hY
        go_wp2_with fail
        refine HV.out.mono ?_
        rintro e w3 ⟨v, rfl, hown3, hO3⟩
        obtain ⟨ad, cap, rfl⟩ := own_slice hown3
        have HOWN3 := Lib.hid hown3
        have HO3 := Lib.hid hO3
        have HVN := Lib.hid (chain_versions_none Y A cb n ZY S t fs 0 w3 (HY.out.only hO3 (by simp)) (HM.out.ch.pool.only hO3 (by simp)))
        clear HV hown3 hO3
        go_wp2_with fail
        refine HVN.out.mono ?_
        rintro e w4 ⟨ad4, cap4, rfl, hO4⟩
        have HFR := Lib.hid (pool_free A n S t fs 0 w4 ((HM.out.ch.pool.only HO3.out (by simp)).only hO4 (by simp)))
        have HO4 := Lib.hid hO4
        clear HVN hO4
        go_wp2_with fail
        refine HFR.out.mono ?_
        rintro e w5 ⟨vf, rfl, hownf, hO5⟩
        obtain ⟨adf, capf, rfl⟩ := own_slice hownf
        have HO5 := Lib.hid ((HO3.out.trans HO4.out).trans hO5)
        have HOWN5 := Lib.hid (own_only (own_only HOWN3.out HO4.out (by simp)) hO5 (by simp))
        have hsub : IntKind.i64.wrap ((n : Int) - u) = (n : Int) - u := wraps_i64 _ (by omega) (by omega)
        have hne : (((fs.length : Int) != (n : Int) - u) = false) := by simp; exact HU.out
        clear hownf hO5 HFR HO4 HO3 HOWN3
        go_wp2_with fail
        clear hsub hne
        refine wp_loop_f 477 (fun g' f wl => FrK A X Y cb n (some ⟨sb, so, none⟩) N sc f ∧ f 15 = .slice (some ⟨g, 0, none⟩) L.length lcap ∧ f 16 = .int .i64 now ∧ f 17 = .int .i64 u ∧ f 18 = .int .i64 ct ∧ f 19 = .int .i64 k ∧ f 39 = .slice ad L.length cap ∧ (∃ j : Nat, j + g' = L.length ∧ f 40 = .int .i64 j) ∧ Only [] w5 wl) L.length rfl ?start9 ?round9
        case start9 => exact ⟨⟨rfl, rfl, rfl, rfl, rfl, rfl⟩, rfl, rfl, rfl, rfl, rfl, rfl, ⟨0, by omega, rfl⟩, Only.refl _ _⟩
        case round9 =>
          intro gk f wr hrel JM KM hJM hKM
          obtain ⟨F, h15, h16, h17, h18, h19, h39, ⟨j, hj, h40⟩, hOl⟩ := hrel
          obtain ⟨fl, hfl⟩ : ∃ l, frameOf f 477 = l := ⟨_, rfl⟩
          rw [hfl]
          rw [frame477, F.f0, F.f1, F.f5, F.f7, F.f9, F.f10, h15, h16, h17, h18, h19, h39, h40] at hfl
          subst hfl
          clear F h15 h16 h17 h18 h19 h39 h40
          have HJ := Lib.hid hj
          have hO6 := HO5.out.trans hOl
          have hM6 := HM.out.plain hO6
          by_cases hjl : j < L.length
          · obtain ⟨i, hi⟩ : ∃ i, L[j]? = some i := ⟨_, List.getElem?_eq_getElem hjl⟩
            have hiL : i ∈ L := List.mem_of_getElem? hi
            have hji : (j : Int) < L.length := by omega
            have hown6 := own_only HOWN5.out hOl (by simp)
            obtain ⟨gv, uv, rfl, hgv1, hgv2, hgv3, hcv, hfv, hxv⟩ := own_place hown6 hjl
            have huv : uv = .int .i64 (wd i (S i).gen) := by
              unfold hands at hxv
              rw [List.map_map, List.getElem?_map, hi] at hxv
              simpa using hxv.symm
            subst huv
            have p0 : wr.cell? ⟨g, j * 4, none⟩ = some (.int .i64 (wd i (S i).gen)) := keep_cell hO6 (HC.out j i 0 _ hi (by decide) rfl)
            have p1 : wr.cell? ⟨g, j * 4 + 1, none⟩ = some (.int .i64 (S i).a) := keep_cell hO6 (HC.out j i 1 _ hi (by decide) rfl)
            have p3 : wr.cell? ⟨g, j * 4 + 3, none⟩ = some (sv i) := keep_cell hO6 (HC.out j i 3 _ hi (by decide) rfl)
            have HRD := Lib.hid (ch_read hM6.ch hiL)
            have hsv := hM6.svs i hiL
            have hzl := (hM6.ch.ent i hiL).2.2.1
            obtain ⟨asv, csv, hsve, _⟩ := id hsv.1
            rw [hsve] at p3
            have HSV := Lib.hid hsv.1
            have HSVE := Lib.hid hsve
            have HO6 := Lib.hid hO6
            have HM6 := Lib.hid hM6
            have HOL := Lib.hid hOl
            have HST := Lib.hid (fun w' (o : Only [] wr w') => ch_set (hM6.plain o).ch hiL)
            clear hj hi hown6 hfv hxv hsv hsve hO6 hM6 hOl
            generalize wd i (S i).gen = hv at *
            generalize (S i).a = ia at *
            generalize (S i).b = ib at *
            generalize (S i).c = ic at *
            generalize (S i).d = id at *
            generalize hzz : (Z i).l = zl at *
            have HZZ := Lib.hid hzz
            clear hzz
            go_wp2_with fail
            refine HRD.out.mono ?_
            rintro e w6 ⟨rfl, hO7⟩
            have HO7 := Lib.hid hO7
            clear hO7 HRD
            go_upto_region 86 with fail
            refine wp_name (fun w7 => Blk w7 w6.heap.size #[.int .i64 ia, .int .i64 ib, .int .i64 ic, .int .i64 id] 39 ∧ Only [] wr w7) ⟨Blk.new _ _ _, HO7.out.trans (Only.alloc _ _ _)⟩ ?_
            rintro w7 ⟨hNB, hO8⟩
            have n0 := hNB.cell 0 rfl
            have r0 := keep_cell hO8 p0
            have r1 := keep_cell hO8 p1
            have r3 := keep_cell hO8 p3
            have rv := keep_cell hO8 hcv
            have HO8 := Lib.hid hO8
            have HNB := Lib.hid hNB
            clear hO8 hNB p0 p1 p3 hcv HO7
            generalize w6.heap.size = nb at *
            clear w6
            refine wp_cut_f2 477 [] (fun f wd => FrK A X Y cb n (some ⟨sb, so, none⟩) N sc f ∧ f 15 = .slice (some ⟨g, 0, none⟩) L.length lcap ∧ f 16 = .int .i64 now ∧ f 17 = .int .i64 u ∧ f 18 = .int .i64 ct ∧ f 19 = .int .i64 k ∧ f 39 = .slice (some ⟨gv, 0, none⟩) L.length cap ∧ f 40 = .int .i64 j ∧ f 473 = .bool false ∧ Only [] wr wd) ?rest9 ?first9
            case first9 =>
              intro J9 K9 hJ9 hK9
              refine wp_region_spec (by kernel_rfl) (fun d v w => (([fun v _ => v = .slice (some ⟨gv, 0, none⟩) L.length cap, fun v _ => v = .int .i64 (j : Nat), fun v _ => v = .pointer (some ⟨gv, j, none⟩), fun v _ => v = .int .i64 hv, fun v _ => v = .slice (some ⟨g, 0, none⟩) L.length lcap, fun v _ => v = .int .i64 (j : Nat), fun v _ => v = .pointer (some ⟨g, j * 4, none⟩), fun v _ => v = .pointer (some ⟨g, j * 4, none⟩), fun v _ => v = .int .i64 hv, fun v _ => v = .bool false, fun v _ => v = .bool false, fun v _ => v = .pointer (some ⟨X.x, 0, none⟩), fun v _ => v = .slice (some ⟨gv, 0, none⟩) L.length cap, fun v _ => v = .int .i64 (j : Nat), fun v _ => v = .pointer (some ⟨gv, j, none⟩), fun v _ => v = .int .i64 hv, fun v w => Reads w v zl, fun v _ => v = .slice (some ⟨g, 0, none⟩) L.length lcap, fun v _ => v = .int .i64 (j : Nat), fun v _ => v = .pointer (some ⟨g, j * 4, none⟩), fun v _ => v = .pointer (some ⟨g, j * 4 + 3, none⟩), fun v _ => v = .slice asv zl.length csv, fun v _ => v = .bool true, fun v _ => v = .bool false, fun v _ => v = .bool false, fun v _ => v = .bool false, fun v _ => v = .int .i64 0, fun v _ => v = .bool false, fun v _ => v = .bool false, fun v _ => v = .bool false, fun v _ => v = .pointer (some ⟨nb, 0, none⟩), fun v _ => v = .int .i64 ia, fun v _ => v = .slice (some ⟨g, 0, none⟩) L.length lcap, fun v _ => v = .int .i64 (j : Nat), fun v _ => v = .pointer (some ⟨g, j * 4, none⟩), fun v _ => v = .pointer (some ⟨g, j * 4 + 1, none⟩), fun v _ => v = .int .i64 ia, fun v _ => v = .bool false, fun v _ => v = .bool false] : List (Value → World → Prop)).getD (d - 435) (fun _ _ => True)) v w) (fun i => 435 + i) ((List.range 39).map (435 + ·)) ?keep (by kernel_rfl) ?hD ?hI ?hs ?hd
              case keep => exact st_getD ⟨st_eq _, st_eq _, st_eq _, st_eq _, st_eq _, st_eq _, st_eq _, st_eq _, st_eq _, st_eq _, st_eq _, st_eq _, st_eq _, st_eq _, st_eq _, st_eq _, st_reads _, st_eq _, st_eq _, st_eq _, st_eq _, st_eq _, st_eq _, st_eq _, st_eq _, st_eq _, st_eq _, st_eq _, st_eq _, st_eq _, st_eq _, st_eq _, st_eq _, st_eq _, st_eq _, st_eq _, st_eq _, st_eq _, st_eq _, trivial⟩
              case hD => exact fun i hi => ⟨List.mem_map.2 ⟨i, List.mem_range.2 hi, rfl⟩, by show 435 + i < 477; have : i < 39 := hi; omega⟩
              case hI => exact fun i j _ _ h => by simpa using h
              case hs =>
                refine ⟨?_, ?_, ?_, ?_, ?_, ?_, ?_, ?_, ?_, ?_, ?_, ?_, ?_, ?_, ?_, ?_, ?_, ?_, ?_, ?_, ?_, ?_, ?_, ?_, ?_, ?_, ?_, ?_, ?_, ?_, ?_, ?_, ?_, ?_, ?_, ?_, ?_, ?_, ?_, trivial⟩
                · refine ⟨rfl, Or.inl rfl, fun a w hd hF hO => ?_⟩
                  have e39 : a.eval (.tmp 39) = .slice (some ⟨gv, 0, none⟩) L.length cap := hF.same 39 (by decide)
                  exact s_val (e_move rfl e39) ⟨_, rfl, rfl, Only.refl _ _⟩
                · refine ⟨rfl, Or.inl rfl, fun a w hd hF hO => ?_⟩
                  have e40 : a.eval (.tmp 40) = .int .i64 (j : Nat) := hF.same 40 (by decide)
                  exact s_val (e_move rfl e40) ⟨_, rfl, rfl, Only.refl _ _⟩
                · refine ⟨rfl, Or.inl rfl, fun a w hd hF hO => ?_⟩
                  have e435 : a.eval (.tmp 435) = .slice (some ⟨gv, 0, none⟩) L.length cap := hd 0 rfl
                  have e436 : a.eval (.tmp 436) = .int .i64 (j : Nat) := hd 1 rfl
                  exact s_val (v := .pointer (some ⟨gv, j, none⟩)) (e_index rfl e435 e436 (by go_simp)) ⟨_, rfl, rfl, Only.refl _ _⟩
                · refine ⟨rfl, Or.inl rfl, fun a w hd hF hO => ?_⟩
                  have e437 : a.eval (.tmp 437) = .pointer (some ⟨gv, j, none⟩) := hd 2 rfl
                  have c0 := keep_cell hO (show w7.drew.cell? _ = _ from rv)
                  exact s_val (v := .int .i64 hv) (e_load rfl e437 (by go_simp)) ⟨_, rfl, rfl, Only.refl _ _⟩
                · refine ⟨rfl, Or.inl rfl, fun a w hd hF hO => ?_⟩
                  have e15 : a.eval (.tmp 15) = .slice (some ⟨g, 0, none⟩) L.length lcap := hF.same 15 (by decide)
                  exact s_val (e_move rfl e15) ⟨_, rfl, rfl, Only.refl _ _⟩
                · refine ⟨rfl, Or.inl rfl, fun a w hd hF hO => ?_⟩
                  have e40 : a.eval (.tmp 40) = .int .i64 (j : Nat) := hF.same 40 (by decide)
                  exact s_val (e_move rfl e40) ⟨_, rfl, rfl, Only.refl _ _⟩
                · refine ⟨rfl, Or.inl rfl, fun a w hd hF hO => ?_⟩
                  have e439 : a.eval (.tmp 439) = .slice (some ⟨g, 0, none⟩) L.length lcap := hd 4 rfl
                  have e440 : a.eval (.tmp 440) = .int .i64 (j : Nat) := hd 5 rfl
                  exact s_val (v := .pointer (some ⟨g, j * 4, none⟩)) (e_index rfl e439 e440 (by go_simp)) ⟨_, rfl, rfl, Only.refl _ _⟩
                · refine ⟨rfl, Or.inl rfl, fun a w hd hF hO => ?_⟩
                  have e441 : a.eval (.tmp 441) = .pointer (some ⟨g, j * 4, none⟩) := hd 6 rfl
                  exact s_val (v := .pointer (some ⟨g, j * 4, none⟩)) (e_field rfl e441 (by go_simp)) ⟨_, rfl, rfl, Only.refl _ _⟩
                · refine ⟨rfl, Or.inl rfl, fun a w hd hF hO => ?_⟩
                  have e442 : a.eval (.tmp 442) = .pointer (some ⟨g, j * 4, none⟩) := hd 7 rfl
                  have c0 := keep_cell hO (show w7.drew.cell? _ = _ from r0)
                  exact s_val (v := .int .i64 hv) (e_load rfl e442 (by go_simp)) ⟨_, rfl, rfl, Only.refl _ _⟩
                · refine ⟨rfl, Or.inl rfl, fun a w hd hF hO => ?_⟩
                  have e438 : a.eval (.tmp 438) = .int .i64 hv := hd 3 rfl
                  have e443 : a.eval (.tmp 443) = .int .i64 hv := hd 8 rfl
                  exact s_val (v := .bool false) (e_bin rfl e438 e443 (by go_simp)) ⟨_, rfl, rfl, Only.refl _ _⟩
                · refine ⟨rfl, Or.inl rfl, fun a w hd hF hO => ?_⟩
                  have e444 : a.eval (.tmp 444) = .bool false := hd 9 rfl
                  exact s_val (e_move rfl e444) ⟨_, rfl, rfl, Only.refl _ _⟩
                · refine ⟨rfl, Or.inr ⟨10, false, rfl, rfl, rfl, fun _ _ h => h⟩, fun a w hd hF hO => ?_⟩
                  have e9 : a.eval (.tmp 9) = .pointer (some ⟨X.x, 0, none⟩) := hF.same 9 (by decide)
                  exact s_val (e_move rfl e9) ⟨_, rfl, rfl, Only.refl _ _⟩
                · refine ⟨rfl, Or.inr ⟨10, false, rfl, rfl, rfl, fun _ _ h => h⟩, fun a w hd hF hO => ?_⟩
                  have e39 : a.eval (.tmp 39) = .slice (some ⟨gv, 0, none⟩) L.length cap := hF.same 39 (by decide)
                  exact s_val (e_move rfl e39) ⟨_, rfl, rfl, Only.refl _ _⟩
                · refine ⟨rfl, Or.inr ⟨10, false, rfl, rfl, rfl, fun _ _ h => h⟩, fun a w hd hF hO => ?_⟩
                  have e40 : a.eval (.tmp 40) = .int .i64 (j : Nat) := hF.same 40 (by decide)
                  exact s_val (e_move rfl e40) ⟨_, rfl, rfl, Only.refl _ _⟩
                · refine ⟨rfl, Or.inr ⟨10, false, rfl, rfl, rfl, fun _ _ h => h⟩, fun a w hd hF hO => ?_⟩
                  have e447 : a.eval (.tmp 447) = .slice (some ⟨gv, 0, none⟩) L.length cap := hd 12 rfl
                  have e448 : a.eval (.tmp 448) = .int .i64 (j : Nat) := hd 13 rfl
                  exact s_val (v := .pointer (some ⟨gv, j, none⟩)) (e_index rfl e447 e448 (by go_simp)) ⟨_, rfl, rfl, Only.refl _ _⟩
                · refine ⟨rfl, Or.inr ⟨10, false, rfl, rfl, rfl, fun _ _ h => h⟩, fun a w hd hF hO => ?_⟩
                  have e449 : a.eval (.tmp 449) = .pointer (some ⟨gv, j, none⟩) := hd 14 rfl
                  have c0 := keep_cell hO (show w7.drew.cell? _ = _ from rv)
                  exact s_val (v := .int .i64 hv) (e_load rfl e449 (by go_simp)) ⟨_, rfl, rfl, Only.refl _ _⟩
                · refine ⟨rfl, Or.inr ⟨10, false, rfl, rfl, rfl, fun _ _ h => h⟩, fun a w hd hF hO => ?_⟩
                  have e446 : a.eval (.tmp 446) = .pointer (some ⟨X.x, 0, none⟩) := hd 11 rfl
                  have e450 : a.eval (.tmp 450) = .int .i64 hv := hd 15 rfl
                  refine s_call (f := 19) (args := #[.pointer (some ⟨X.x, 0, none⟩), .int .i64 hv]) (by unfold execOp; simp [resolve, e446, e450]; rfl) ?_
                  refine (HST.out w (HO8.out.trans ((Only.drew [] w7).trans hO))).mono ?_
                  rintro e w' ⟨vs, rfl, hown, hX⟩
                  exact ⟨vs, rfl, vs, rfl, Reads.of_own hown, hX⟩
                · refine ⟨rfl, Or.inr ⟨10, false, rfl, rfl, rfl, fun _ _ h => h⟩, fun a w hd hF hO => ?_⟩
                  have e15 : a.eval (.tmp 15) = .slice (some ⟨g, 0, none⟩) L.length lcap := hF.same 15 (by decide)
                  exact s_val (e_move rfl e15) ⟨_, rfl, rfl, Only.refl _ _⟩
                · refine ⟨rfl, Or.inr ⟨10, false, rfl, rfl, rfl, fun _ _ h => h⟩, fun a w hd hF hO => ?_⟩
                  have e40 : a.eval (.tmp 40) = .int .i64 (j : Nat) := hF.same 40 (by decide)
                  exact s_val (e_move rfl e40) ⟨_, rfl, rfl, Only.refl _ _⟩
                · refine ⟨rfl, Or.inr ⟨10, false, rfl, rfl, rfl, fun _ _ h => h⟩, fun a w hd hF hO => ?_⟩
                  have e452 : a.eval (.tmp 452) = .slice (some ⟨g, 0, none⟩) L.length lcap := hd 17 rfl
                  have e453 : a.eval (.tmp 453) = .int .i64 (j : Nat) := hd 18 rfl
                  exact s_val (v := .pointer (some ⟨g, j * 4, none⟩)) (e_index rfl e452 e453 (by go_simp)) ⟨_, rfl, rfl, Only.refl _ _⟩
                · refine ⟨rfl, Or.inr ⟨10, false, rfl, rfl, rfl, fun _ _ h => h⟩, fun a w hd hF hO => ?_⟩
                  have e454 : a.eval (.tmp 454) = .pointer (some ⟨g, j * 4, none⟩) := hd 19 rfl
                  exact s_val (v := .pointer (some ⟨g, j * 4 + 3, none⟩)) (e_field rfl e454 (by go_simp)) ⟨_, rfl, rfl, Only.refl _ _⟩
                · refine ⟨rfl, Or.inr ⟨10, false, rfl, rfl, rfl, fun _ _ h => h⟩, fun a w hd hF hO => ?_⟩
                  have e455 : a.eval (.tmp 455) = .pointer (some ⟨g, j * 4 + 3, none⟩) := hd 20 rfl
                  have c0 := keep_cell hO (show w7.drew.cell? _ = _ from r3)
                  exact s_val (v := .slice asv zl.length csv) (e_load rfl e455 (by go_simp)) ⟨_, rfl, rfl, Only.refl _ _⟩
                · refine ⟨rfl, Or.inr ⟨10, false, rfl, rfl, rfl, fun _ _ h => h⟩, fun a w hd hF hO => ?_⟩
                  have e451 : Reads w (a.eval (.tmp 451)) zl := hd 16 rfl
                  have e456 : a.eval (.tmp 456) = .slice asv zl.length csv := hd 21 rfl
                  obtain ⟨v451, hv451⟩ : ∃ v, a.eval (.tmp 451) = v := ⟨_, rfl⟩
                  rw [hv451] at e451
                  refine s_call (f := 12) (args := #[v451, .slice asv zl.length csv]) (by unfold execOp; simp [resolve, hv451, e456]; rfl) ?_
                  refine (runs_ints v451 (.slice asv zl.length csv) zl w e451 (by have h5 := HSV.out.only (HO8.out.trans ((Only.drew [] w7).trans hO)) (by simp); rw [HSVE.out] at h5; exact h5) (by omega)).mono ?_
                  rintro e w' ⟨rfl, hX⟩
                  exact ⟨_, rfl, _, rfl, rfl, hX⟩
                · refine ⟨rfl, Or.inr ⟨10, false, rfl, rfl, rfl, fun _ _ h => h⟩, fun a w hd hF hO => ?_⟩
                  have e457 : a.eval (.tmp 457) = .bool true := hd 22 rfl
                  exact s_val (v := .bool false) (by unfold execOp; simp [e457]; rfl) ⟨_, rfl, rfl, Only.refl _ _⟩
                · refine ⟨rfl, Or.inl rfl, fun a w hd hF hO => ?_⟩
                  have e445 : a.eval (.tmp 445) = .bool false := hd 10 rfl
                  have e458 : a.eval (.tmp 458) = .bool false := hd 23 rfl
                  exact s_val (e_pick_f rfl e445 e458) ⟨_, rfl, rfl, Only.refl _ _⟩
                · refine ⟨rfl, Or.inl rfl, fun a w hd hF hO => ?_⟩
                  have e459 : a.eval (.tmp 459) = .bool false := hd 24 rfl
                  exact s_val (e_move rfl e459) ⟨_, rfl, rfl, Only.refl _ _⟩
                · refine ⟨rfl, Or.inr ⟨25, false, rfl, rfl, rfl, fun _ _ h => h⟩, fun a w hd hF hO => ?_⟩
                  have e42 : a.eval (.tmp 42) = .int .i64 0 := hF.same 42 (by decide)
                  exact s_val (e_move rfl e42) ⟨_, rfl, rfl, Only.refl _ _⟩
                · refine ⟨rfl, Or.inr ⟨25, false, rfl, rfl, rfl, fun _ _ h => h⟩, fun a w hd hF hO => ?_⟩
                  have e461 : a.eval (.tmp 461) = .int .i64 0 := hd 26 rfl
                  exact s_val (v := .bool false) (e_bin rfl e461 rfl (by go_simp)) ⟨_, rfl, rfl, Only.refl _ _⟩
                · refine ⟨rfl, Or.inl rfl, fun a w hd hF hO => ?_⟩
                  have e460 : a.eval (.tmp 460) = .bool false := hd 25 rfl
                  have e462 : a.eval (.tmp 462) = .bool false := hd 27 rfl
                  exact s_val (e_pick_f rfl e460 e462) ⟨_, rfl, rfl, Only.refl _ _⟩
                · refine ⟨rfl, Or.inl rfl, fun a w hd hF hO => ?_⟩
                  have e463 : a.eval (.tmp 463) = .bool false := hd 28 rfl
                  exact s_val (e_move rfl e463) ⟨_, rfl, rfl, Only.refl _ _⟩
                · refine ⟨rfl, Or.inr ⟨29, false, rfl, rfl, rfl, fun _ _ h => h⟩, fun a w hd hF hO => ?_⟩
                  have e41 : a.eval (.tmp 41) = .pointer (some ⟨nb, 0, none⟩) := hF.same 41 (by decide)
                  exact s_val (v := .pointer (some ⟨nb, 0, none⟩)) (e_field rfl e41 (by go_simp)) ⟨_, rfl, rfl, Only.refl _ _⟩
                · refine ⟨rfl, Or.inr ⟨29, false, rfl, rfl, rfl, fun _ _ h => h⟩, fun a w hd hF hO => ?_⟩
                  have e465 : a.eval (.tmp 465) = .pointer (some ⟨nb, 0, none⟩) := hd 30 rfl
                  have c0 := keep_cell hO (show w7.drew.cell? _ = _ from n0)
                  exact s_val (v := .int .i64 ia) (e_load rfl e465 (by go_simp)) ⟨_, rfl, rfl, Only.refl _ _⟩
                · refine ⟨rfl, Or.inr ⟨29, false, rfl, rfl, rfl, fun _ _ h => h⟩, fun a w hd hF hO => ?_⟩
                  have e15 : a.eval (.tmp 15) = .slice (some ⟨g, 0, none⟩) L.length lcap := hF.same 15 (by decide)
                  exact s_val (e_move rfl e15) ⟨_, rfl, rfl, Only.refl _ _⟩
                · refine ⟨rfl, Or.inr ⟨29, false, rfl, rfl, rfl, fun _ _ h => h⟩, fun a w hd hF hO => ?_⟩
                  have e40 : a.eval (.tmp 40) = .int .i64 (j : Nat) := hF.same 40 (by decide)
                  exact s_val (e_move rfl e40) ⟨_, rfl, rfl, Only.refl _ _⟩
                · refine ⟨rfl, Or.inr ⟨29, false, rfl, rfl, rfl, fun _ _ h => h⟩, fun a w hd hF hO => ?_⟩
                  have e467 : a.eval (.tmp 467) = .slice (some ⟨g, 0, none⟩) L.length lcap := hd 32 rfl
                  have e468 : a.eval (.tmp 468) = .int .i64 (j : Nat) := hd 33 rfl
                  exact s_val (v := .pointer (some ⟨g, j * 4, none⟩)) (e_index rfl e467 e468 (by go_simp)) ⟨_, rfl, rfl, Only.refl _ _⟩
                · refine ⟨rfl, Or.inr ⟨29, false, rfl, rfl, rfl, fun _ _ h => h⟩, fun a w hd hF hO => ?_⟩
                  have e469 : a.eval (.tmp 469) = .pointer (some ⟨g, j * 4, none⟩) := hd 34 rfl
                  exact s_val (v := .pointer (some ⟨g, j * 4 + 1, none⟩)) (e_field rfl e469 (by go_simp)) ⟨_, rfl, rfl, Only.refl _ _⟩
                · refine ⟨rfl, Or.inr ⟨29, false, rfl, rfl, rfl, fun _ _ h => h⟩, fun a w hd hF hO => ?_⟩
                  have e470 : a.eval (.tmp 470) = .pointer (some ⟨g, j * 4 + 1, none⟩) := hd 35 rfl
                  have c0 := keep_cell hO (show w7.drew.cell? _ = _ from r1)
                  exact s_val (v := .int .i64 ia) (e_load rfl e470 (by go_simp)) ⟨_, rfl, rfl, Only.refl _ _⟩
                · refine ⟨rfl, Or.inr ⟨29, false, rfl, rfl, rfl, fun _ _ h => h⟩, fun a w hd hF hO => ?_⟩
                  have e466 : a.eval (.tmp 466) = .int .i64 ia := hd 31 rfl
                  have e471 : a.eval (.tmp 471) = .int .i64 ia := hd 36 rfl
                  exact s_val (v := .bool false) (e_bin rfl e466 e471 (by go_simp)) ⟨_, rfl, rfl, Only.refl _ _⟩
                · refine ⟨rfl, Or.inl rfl, fun a w hd hF hO => ?_⟩
                  have e464 : a.eval (.tmp 464) = .bool false := hd 29 rfl
                  have e472 : a.eval (.tmp 472) = .bool false := hd 37 rfl
                  exact s_val (e_pick_f rfl e464 e472) ⟨_, rfl, rfl, Only.refl _ _⟩
              case hd =>
                intro a w' hP hF hO
                have e473 : sl a 473 = .bool false := hP 38 (by decide)
                refine hK9 _ _ (Met.intro (hJ9 _ _ hF.size hF.defers ?_))
                exact ⟨⟨hF.same 0 (by decide), hF.same 1 (by decide), hF.same 5 (by decide), hF.same 7 (by decide), hF.same 9 (by decide), hF.same 10 (by decide)⟩, hF.same 15 (by decide), hF.same 16 (by decide), hF.same 17 (by decide), hF.same 18 (by decide), hF.same 19 (by decide), hF.same 39 (by decide), hF.same 40 (by decide), e473, HO8.out.trans ((Only.drew [] w7).trans hO)⟩
            case rest9 =>
              intro f wd hcut
              obtain ⟨F, h15, h16, h17, h18, h19, h39, h40, h473, hO9⟩ := hcut
              obtain ⟨fl, hfl⟩ : ∃ l, frameOf f 477 = l := ⟨_, rfl⟩
              rw [hfl]
              rw [frame477, F.f0, F.f1, F.f5, F.f7, F.f9, F.f10, h15, h16, h17, h18, h19, h39, h40, h473] at hfl
              subst hfl
              clear F h15 h16 h17 h18 h19 h39 h40 h473
              go_wp2_with fail
              refine Handed.intro (gk - 1) ?_ (hJM _ _ _ rfl ?_)
              · have := HJ.out; omega
              · exact ⟨⟨rfl, rfl, rfl, rfl, rfl, rfl⟩, rfl, rfl, rfl, rfl, rfl, rfl, ⟨j + 1, by have := HJ.out; omega, (by show Value.int .i64 ((j : Int) + 1) = Value.int .i64 ((j + 1 : Nat) : Int); go_num)⟩, HOL.out.trans hO9⟩
          · have hjn : j = L.length := by omega
            subst hjn
            clear hj
            have HO6 := Lib.hid hO6
            have HM6 := Lib.hid hM6
            clear hO6 hM6 hOl
            go_wp2_with fail
            refine Handed.intro (gk0 - 1) ?_ (hJL _ _ _ rfl ?_)
            · have := HK.out; omega
            · exact ⟨⟨rfl, rfl, rfl, rfl, rfl, rfl⟩, k + 1, S, t, fs, now, Z, L, _, sv, u, ct, by have := HK.out; omega, rfl, rfl, rfl, rfl, by omega, (by show Value.int .i64 ((k : Int) + 1) = Value.int .i64 ((k + 1 : Nat) : Int); go_num), HM6.out, HB.out.trans HO6.out⟩
        --END7
    · have hkN : k = N := by omega
      subst hkN
      clear hk
      --ARM8
      have HF := Lib.hid (pool_faults A n S t fs 0 wr HM.out.ch.pool)
      go_wp2_with fail
      refine HF.out.mono ?_
      rintro e w' ⟨rfl, rfl⟩
      go_wp2_with fail
      go_ret
      exact ⟨rfl, HB.out⟩
      --END8

end Go.Proofs.Yteeibhjmjejplaa
