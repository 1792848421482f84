import Derived.Test.YtadilppdlbhjnaaGF
import Derived.Test.YtadilppdlbhjnaaM3
import Derived.Test.YtadilppdlbhjnaaGB
import Derived.Test.YtadilppdlbhjnaaGC
namespace Go.Proofs.Ytadilppdlbhjnaa
set_option linter.unusedSimpArgs false
set_option linter.unusedVariables false
open Go.RowKit
def Cells (W : World) : List (Nat × Nat × Value) → Prop
 | [] => True
 | (b, o, v) :: t => (W.cell? ⟨b, o, none⟩ = some v ∧ W.frozen? ⟨b, o, none⟩ = false) ∧ Cells W t
theorem Cells.up {W W' : World} : ∀ {L : List (Nat × Nat × Value)}, Cells W L → Below W.heap.size W W' → Cells W' L
 | [], _, _ => trivial
 | (b, o, v) :: t, h, hB => ⟨⟨oldcell hB h.1.1 (World.block_lt_of_cell? _ _ h.1.1), oldfree hB h.1.2 (World.block_lt_of_cell? _ _ h.1.1)⟩, Cells.up h.2 hB⟩
theorem Cells.far {W : World} {b o : Nat} {v : Value} : ∀ {L : List (Nat × Nat × Value)}, Cells W L → (∀ x ∈ L, b ≠ x.1) → Cells (W.setCell ⟨b, o, none⟩ v) L
 | [], _, _ => trivial
 | (b1, o1, v1) :: t, h, hb => ⟨⟨keep_far h.1.1 (hb _ (List.mem_cons_self ..)), by rw [World.frozen?_setCell]; exact h.1.2⟩, Cells.far h.2 fun x hx => hb x (List.mem_cons_of_mem _ hx)⟩
theorem Cells.below {B : Nat} {W W' : World} : ∀ {L : List (Nat × Nat × Value)}, Cells W L → Below B W W' → (∀ x ∈ L, x.1 < B) → Cells W' L
 | [], _, _, _ => trivial
 | (b, o, v) :: t, h, hB, hb => ⟨⟨oldcell hB h.1.1 (hb _ (List.mem_cons_self ..)), oldfree hB h.1.2 (hb _ (List.mem_cons_self ..))⟩, Cells.below h.2 hB fun x hx => hb x (List.mem_cons_of_mem _ hx)⟩
theorem fz {W : World} {a p : Addr} {v : Value} (h : W.frozen? p = false) : (W.setCell a v).frozen? p = false := by rw [World.frozen?_setCell]; exact h
theorem Fresh.ne {w : World} {p0 p : Option Addr} {g : Nat} (h : Fresh w p0 p) (h0 : ∀ a, p0 = some a → a.block ≠ g) (hg : g < w.heap.size) : ∀ a, p = some a → a.block ≠ g := by
 rcases h with rfl | h
 · exact h0
 · exact fun a ha e => by have := h a ha; omega
theorem CAt.lt {w : World} {p : Option Addr} {cap : Nat} {c : List Gate} (h : CAt w p cap c) (h0 : 0 < c.length) : ∀ ad, p = some ad → ad.block < w.heap.size := by
 intro ad e
 rcases h.at' with h1 | ⟨b', off, hp, hb', _⟩
 · rw [h1] at h0; cases h0
 · rw [e] at hp; cases hp; exact hb'
def RetCF (w : World) (p0 : Option Addr) (c : List Gate) (r : Int) (e : Ending) (w' : World) : Prop :=
 ∃ p cap, e = .returned (.tuple #[.agg #[.slice p c.length cap], .int .i64 r]) ∧ CAt w' p cap c ∧ Below w.heap.size w w' ∧ Fresh w p0 p
theorem RetCirc.f {w : World} {p0 : Option Addr} {x y : List Gate} {r s : Int} {e : Ending} {w' : World} (h : RetCirc w p0 x r e w') (e1 : (x, r) = (y, s)) : RetCF w p0 y s e w' := by
 obtain ⟨p, cap, h1, h2, h3, h4, h5, h6, h7⟩ := h
 cases e1
 exact ⟨p, cap, h1, ⟨h2, h3, h4, h5⟩, h6, h7⟩
section
variable {gs c : List Gate} {a b r : Int} {p : Option Addr} {cap : Nat} {w W : World}
variable (h : CAt w p cap gs) (ha : a ≤ 9223372036854775807) (hb : b ≤ 9223372036854775807) (hl : gs.length ≤ 20000)
include h ha hb hl
theorem rand_fr (e : cand gs a b = (c, r)) : Calls Try.prog 82 #[.agg #[.slice p gs.length cap], .int .i64 a, .int .i64 b] w (RetCF w p c r) :=
 (rand_any gs a b p cap w ha hb hl h.le h.cm h.p0 h.at').mono fun _ _ x => RetCirc.f x e
theorem ror_fr (e : cor gs a b = (c, r)) : Calls Try.prog 106 #[.agg #[.slice p gs.length cap], .int .i64 a, .int .i64 b] w (RetCF w p c r) :=
 (ror_any gs a b p cap w ha hb hl h.le h.cm h.p0 h.at').mono fun _ _ x => RetCirc.f x e
end
def RetCMF (w : World) (p0 q0 : Option Addr) (c : List Gate) (ar : Int) (m : List Cell) (e : Ending) (w' : World) : Prop :=
 ∃ p cap q cq, e = .returned (.tuple #[.agg #[.slice p c.length cap], .agg #[.int .i64 ar, .slice q m.length cq]]) ∧ CAt w' p cap c ∧ MxAt w' q cq m ∧ Below w.heap.size w w' ∧ Fresh w p0 p ∧ Fresh w q0 q
theorem at_is {m : List Cell} {ar rank y : Int} {p : Option Addr} {cap : Nat} {w : World} (h : MxAt w p cap m) (hl : m.length ≤ 20000) (e : mat m rank = y) : Calls Try.prog 107 #[.agg #[.int .i64 ar, .slice p m.length cap], .int .i64 rank] w fun e w' => e = .returned (.int .i64 y) ∧ Below w.heap.size w w' := by
 subst e; exact at_any m ar rank p cap w h hl
theorem with_is {m n : List Cell} {ar rank r : Int} {p : Option Addr} {cap : Nat} {w : World} (h : MxAt w p cap m) (hl : m.length ≤ 20000) (e : put m rank r = n) : Calls Try.prog 108 #[.agg #[.int .i64 ar, .slice p m.length cap], .int .i64 rank, .int .i64 r] w (RetMF w p ar n) := by
 subst e; exact with_any m ar rank r p cap w h hl
def RetCMY (w : World) (p0 q0 : Option Addr) (c : List Gate) (ar : Int) (m : List Cell) (e : Ending) (w' : World) : Prop :=
 ∃ p cap q cq, e = .returned (.tuple #[.agg #[.slice p c.length cap], .agg #[.int .i64 ar, .slice q m.length cq]]) ∧ CAt w' p cap c ∧ MxAt w' q cq m ∧ Below w.heap.size w w' ∧ FreshB w p0 p ∧ FreshB w q0 q
theorem RetCMB.eq {w w' : World} {p : Option Addr} {x : List Gate × List Cell} {D : List Gate} {J : List Cell} {ar : Int} {e : Ending} (h : RetCMB w p x.1 ar x.2 e w') (e1 : x = (D, J)) : RetCMB w p D ar J e w' := by subst e1; exact h
theorem RetCMY.eq {w w' : World} {p q : Option Addr} {x : List Gate × List Cell} {D : List Gate} {J : List Cell} {ar : Int} {e : Ending} (h : RetCMY w p q x.1 ar x.2 e w') (e1 : x = (D, J)) : RetCMY w p q D ar J e w' := by subst e1; exact h
theorem RetCMF.eq {w w' : World} {p q : Option Addr} {x : List Gate × List Cell} {D : List Gate} {J : List Cell} {ar : Int} {e : Ending} (h : RetCMF w p q x.1 ar x.2 e w') (e1 : x = (D, J)) : RetCMF w p q D ar J e w' := by subst e1; exact h
theorem Fresh.any {w : World} {q x : Option Addr} (h : Fresh w none q) : Fresh w x q := by
 rcases h with rfl | h
 · exact .inr fun a ha => by cases ha
 · exact .inr h
theorem MOk.le {c : List Gate} {N : Int} {m : List Cell} (h : MOk c N m) (hl : c.length ≤ 20000) : ∀ x ∈ m, x.ref ≤ 100000 := fun x hx => by have := (h.refs x hx).2.1; omega
theorem zrun_take {op : List Gate → Int → Int → List Gate × Int} {T : List Tri} {K : Nat} {t : Tri} {x c d : List Gate} {m m0 : List Cell} {y : Int} (h : T[K]? = some t) (h0 : zrun op (T.take K) (x, m0) = (c, m)) (h1 : op c t.p t.q = (d, y)) : zrun op (T.take (K + 1)) (x, m0) = (d, put m t.rank y) := by
 obtain ⟨hk, he⟩ := List.getElem?_eq_some_iff.1 h
 rw [List.take_succ_eq_append_getElem hk, he, zrun_snoc, h0]
 show ((op c t.p t.q).1, put m t.rank (op c t.p t.q).2) = _
 rw [h1]
theorem zrun_lens {op : List Gate → Int → Int → List Gate × Int} (h : ∀ c p q, (op c p q).1.length ≤ c.length + 1) {T : List Tri} {K : Nat} {x c : List Gate} {m : List Cell} (h0 : zrun op (T.take K) (x, []) = (c, m)) : c.length ≤ x.length + K ∧ m.length ≤ K := by
 obtain ⟨h1, h2⟩ := zrun_len h (T.take K) (x, [])
 have := List.length_take_le K T
 rw [h0] at h1 h2
 dsimp only at h1 h2
 simp at h2
 omega
theorem mat_le {m : List Cell} (h : ∀ x ∈ m, x.ref ≤ 100000) (r : Int) : mat m r ≤ 100000 := by
 rcases mat_cases m r with e | ⟨x, hx, _, e⟩
 · rw [e]; omega
 · rw [e]; exact h x hx
theorem rtri_get {a b : List Cell} {K : Nat} {r : Int} (h : (mranks a b)[K]? = some r) : (rtri a b)[K]? = some ⟨r, mat a r, mat b r⟩ := by
 unfold mranks at h; unfold rtri
 rw [List.getElem?_map] at h ⊢
 cases hk : (mzip a b)[K]? with
 | none => rw [hk] at h; cases h
 | some t => rw [hk] at h; cases h; rfl
theorem itri_get {a b : List Cell} {K : Nat} {x : Cell} (h : a[K]? = some x) : (itri a b)[K]? = some ⟨x.rank, x.ref, mat b x.rank⟩ := by
 unfold itri; rw [List.getElem?_map, h]; rfl
theorem rtri_len (a b : List Cell) : (rtri a b).length = (mranks a b).length := by simp [rtri, mranks]
theorem itri_len (a b : List Cell) : (itri a b).length = a.length := by simp [itri]
theorem CAt.box {w : World} {p a : Option Addr} {cap b o n c : Nat} {gs : List Gate} (h : CAt w p cap gs) (h1 : w.cell? ⟨b, o, none⟩ = some (.slice a n c)) (v : Value) : CAt (w.setCell ⟨b, o, none⟩ v) p cap gs := ⟨h.le, h.cm, h.p0, h.at'.setBox h1 (gEnc_ne_slice _ _ _) _⟩
theorem cEnc_ne_slice (a : Option Addr) (n c : Nat) (x : Cell) (j : Nat) : cEnc x j ≠ .slice a n c := by unfold cEnc; split <;> simp
theorem MxAt.box {w : World} {p a : Option Addr} {cap b o n c : Nat} {m : List Cell} (h : MxAt w p cap m) (h1 : w.cell? ⟨b, o, none⟩ = some (.slice a n c)) (v : Value) : MxAt (w.setCell ⟨b, o, none⟩ v) p cap m := ⟨h.le, h.cm, h.p0, h.at'.setBox h1 (cEnc_ne_slice _ _ _) _, fun x hx => by have := h.lt x hx; simpa using this⟩
theorem SI.box {w : World} {p a : Option Addr} {cap b o n c : Nat} {m : List Int} (h : SI w p cap m) (h1 : w.cell? ⟨b, o, none⟩ = some (.slice a n c)) (v : Value) : SI (w.setCell ⟨b, o, none⟩ v) p cap m := ⟨h.le, h.cm, h.q0, h.at'.setBox h1 (fun x j => by simp [iEnc]) _, fun x hx => by have := h.lt x hx; simpa using this⟩
theorem SI.set {w : World} {p : Option Addr} {cap b o : Nat} {m : List Int} (h : SI w p cap m) (hn : ∀ a, p = some a → b ≠ a.block) (v : Value) : SI (w.setCell ⟨b, o, none⟩ v) p cap m := ⟨h.le, h.cm, h.q0, h.at'.setCell hn v, fun a ha => by have := h.lt a ha; simpa using this⟩
theorem rpower_is {n k : Nat} {x : Int} {q : Nat} (w : World) (hx : x = (k : Int)) (hq : n ^ k = q) (hn : n ≤ 12) (hk : k ≤ 3) :
 Calls Try.prog 109 #[.int .i64 n, .int .i64 x] w fun e w' => e = .returned (.int .i64 (q : Int)) ∧ w' = w := by
 subst hx hq; exact rpower_any n k w hn hk
theorem power_is {n k : Nat} {x : Int} {q : Nat} (w : World) (hx : x = (k : Int)) (hq : n ^ k = q) (hn : n ≤ 12) (hk : k ≤ 3) :
 Calls Try.prog 96 #[.int .i64 n, .int .i64 x] w fun e w' => e = .returned (.int .i64 (q : Int)) ∧ w' = w := by
 subst hx hq; exact power_any n k w hn hk
theorem flat1 {α : Type} {enc : α → Nat → Value} {xs : List α} : flat 1 enc xs = xs.map fun x => enc x 0 := by
 induction xs with
 | nil => rfl
 | cons x t ih =>
  show (List.range 1).map (enc x) ++ flat 1 enc t = _
  rw [ih]; rfl
def OwnI (w : World) (B g n cap : Nat) (m : List Int) : Prop := m.length = n ∧ w.ownsRow B 3 1 (.slice (some ⟨g, 0, none⟩) n cap) n (flat 1 iEnc m)
theorem OwnI.get {w : World} {B g n cap : Nat} {m : List Int} (h : OwnI w B g n cap m) {i : Nat} {x : Int} (hi : m[i]? = some x) : w.cell? ⟨g, i, none⟩ = some (.int .i64 x) := by
 have hl := (List.getElem?_eq_some_iff.1 hi).1
 rw [h.2.cellAt i (by have := h.1; omega), flat1, List.getElem?_map, hi]; rfl
theorem OwnI.free {w : World} {B g n cap : Nat} {m : List Int} (h : OwnI w B g n cap m) (i : Nat) : w.frozen? ⟨g, i, none⟩ = false := h.2.frozenAt i
theorem OwnI.put {w : World} {B g n cap : Nat} {m : List Int} (h : OwnI w B g n cap m) (i : Nat) (b : Int) : OwnI (w.setCell ⟨g, i, none⟩ (.int .i64 b)) B g n cap (m.set i b) := by
 have := (h.2.stored i (.int .i64 b)).1
 have e : (flat 1 iEnc m).set i (.int .i64 b) = flat 1 iEnc (m.set i b) := by rw [flat1, flat1, List.map_set]; rfl
 rw [e] at this
 exact ⟨by rw [List.length_set]; exact h.1, this⟩
theorem OwnI.lt {w : World} {B g n cap : Nat} {m : List Int} (h : OwnI w B g n cap m) : B ≤ g ∧ g < w.heap.size := h.2.lt g rfl
theorem OwnI.keep {X : List Nat} {w w' : World} {B g n cap : Nat} {m : List Int} (h : OwnI w B g n cap m) (hk : KeepX X w w') (hg : g ∉ X) : OwnI w' B g n cap m := by
 have hlt := h.lt.2
 obtain ⟨h1, h2⟩ := h
 refine ⟨h1, h2.1, ?_⟩
 rcases h2.2 with h | ⟨g', cap', cur, hv, hb, hh, hr⟩
 · exact .inl h
 · simp only [Value.slice.injEq, Option.some.injEq, Addr.mk.injEq, and_true, true_and] at hv
   obtain ⟨rfl, rfl⟩ := hv
   exact .inr ⟨g, cap, cur, rfl, hb, by rw [hk.block g hlt hg]; exact hh, hr⟩
theorem OwnI.up {w w' : World} {B g n cap : Nat} {m : List Int} (h : OwnI w B g n cap m) (hB : Below w.heap.size w w') : OwnI w' B g n cap m := h.keep (KeepX.of_below (X := []) hB) (by simp)
theorem OwnI.set {w : World} {B g n cap b o : Nat} {m : List Int} (h : OwnI w B g n cap m) (hn : b ≠ g) (v : Value) : OwnI (w.setCell ⟨b, o, none⟩ v) B g n cap m := h.keep ((KeepX.refl [b] w).setCell (by simp) v) (by simp; exact fun e => hn e.symm)
theorem quo_rem {x : Int} {n : Nat} (h0 : 0 ≤ x) (h1 : x < 1000000) (hn : 0 < n) :
 IntKind.i64.wrap (x.tdiv n) = x / n ∧ x.tmod n = x % n ∧ IntKind.i64.wrap (x % n) = x % n ∧ 0 ≤ x / (n : Int) ∧ x / (n : Int) ≤ x ∧ 0 ≤ x % (n : Int) ∧ x % (n : Int) ≤ x := by
 have a1 := Int.ediv_nonneg h0 (show 0 ≤ (n : Int) by omega)
 have a2 := Int.ediv_le_self (n : Int) h0
 have a3 := Int.emod_nonneg x (show (n : Int) ≠ 0 by omega)
 have a4 : x % (n : Int) ≤ x := by
  have := Int.emod_add_mul_ediv x n
  have : 0 ≤ (n : Int) * (x / n) := Int.mul_nonneg (by omega) a1
  omega
 refine ⟨?_, Int.tmod_eq_emod_of_nonneg h0, ?_, a1, a2, a3, a4⟩
 · rw [Int.tdiv_eq_ediv_of_nonneg h0, IntWalk.i64_in]; omega
 · rw [IntWalk.i64_in]; omega
theorem jrank {x y : Int} {n p : Nat} (hx0 : 0 ≤ x) (hx : x < 2000) (hy0 : 0 ≤ y) (hy : y < 2000) (hn : 0 < n) (hp : 0 < p) (hp2 : p ≤ 1728) :
 ∃ (q1 m1 r2 r1 q2 : Int) (T : Nat), x / n = q1 ∧ q1 * p = m1 ∧ y % p = r2 ∧ x % n = r1 ∧ y / p = q2 ∧ m1 + r2 = (T : Int) ∧ IntKind.i64.wrap (x.tdiv n) = q1 ∧ IntKind.i64.wrap (q1 * p) = m1 ∧ y.tmod p = r2 ∧ x.tmod n = r1 ∧ IntKind.i64.wrap (y.tdiv p) = q2 ∧ IntKind.i64.wrap (m1 + r2) = (T : Int) ∧ IntKind.i64.wrap r1 = r1 ∧ IntKind.i64.wrap r2 = r2 := by
 obtain ⟨a1, a2, a3, a4, a5, a6, a7⟩ := quo_rem hx0 (by omega) hn
 obtain ⟨b1, b2, b3, b4, b5, b6, b7⟩ := quo_rem hy0 (by omega) hp
 have h1 : 0 ≤ x / (n : Int) * p := Int.mul_nonneg a4 (by omega)
 have h2 : x / (n : Int) * p ≤ 2000 * 1728 := Int.mul_le_mul (by omega) (by omega) (by omega) (by omega)
 have h3 : x / (n : Int) * p + y % (p : Int) = (((x / (n : Int) * p + y % (p : Int)).toNat : Nat) : Int) := by omega
 exact ⟨_, _, _, _, _, (x / (n : Int) * p + y % (p : Int)).toNat, rfl, rfl, rfl, rfl, rfl, h3, a1, by rw [IntWalk.i64_in]; omega, b2, a2, b1, by rw [IntWalk.i64_in, ← h3]; omega, a3, b3⟩
end Go.Proofs.Ytadilppdlbhjnaa
