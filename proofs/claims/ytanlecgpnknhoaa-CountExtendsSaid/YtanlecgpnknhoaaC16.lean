/- Walks of layer 16: Great, inputs of the laws. -/
import Derived.Test.YtanlecgpnknhoaaC15
namespace Go.Proofs.Ytanlecgpnknhoaa
set_option linter.unusedSimpArgs false
set_option linter.unusedVariables false
open Go.RowKit

def uEnc (n : Nat) : Nat → Value := fun _ => .int .u8 n
abbrev BytesAt := SlAt 1 uEnc
/-- What a Raw holds, and where. -/
structure RawV where
  L : List Step
  A : List Nat
  B : List Nat
  V : List Bool
  by' : Int
structure RawP where
  pL : Option Addr
  cL : Nat
  pA : Option Addr
  cA : Nat
  pB : Option Addr
  cB : Nat
  pV : Option Addr
  cV : Nat
/-- The boxed Raw. -/
structure RawAt (w : World) (b : Nat) (x : RawV) (q : RawP) : Prop where
  k0 : w.cell? ⟨b, 0, none⟩ = some (.slice q.pL x.L.length q.cL)
  k1 : w.cell? ⟨b, 1, none⟩ = some (.slice q.pA x.A.length q.cA)
  k2 : w.cell? ⟨b, 2, none⟩ = some (.slice q.pB x.B.length q.cB)
  k3 : w.cell? ⟨b, 3, none⟩ = some (.slice q.pV x.V.length q.cV)
  k4 : w.cell? ⟨b, 4, none⟩ = some (.int .i8 x.by')
structure RawOk (w : World) (x : RawV) (q : RawP) : Prop where
  l0 : x.L.length ≤ maxLen
  l1 : x.A.length ≤ maxLen
  l2 : x.B.length ≤ maxLen
  l3 : x.V.length ≤ maxLen
  s0 : ∀ s ∈ x.L, s.k < 256 ∧ s.a < 256 ∧ s.b < 256
  s1 : ∀ n ∈ x.A, n < 256
  s2 : ∀ n ∈ x.B, n < 256
  b0 : -128 ≤ x.by'
  b1 : x.by' ≤ 127
  a0 : StepsAt w q.pL x.L
  a1 : BytesAt w q.pA x.A
  a2 : BytesAt w q.pB x.B
  a3 : BoolsAt w q.pV x.V
theorem RawAt.up {w w' : World} {b : Nat} {x : RawV} {q : RawP} (h : RawAt w b x q) (hB : Below w.heap.size w w') : RawAt w' b x q :=
  have hb := World.block_lt_of_cell? _ _ h.k0
  ⟨oldcell hB h.k0 hb, oldcell hB h.k1 hb, oldcell hB h.k2 hb, oldcell hB h.k3 hb, oldcell hB h.k4 hb⟩
theorem RawOk.up {w w' : World} {x : RawV} {q : RawP} (h : RawOk w x q) (hB : Below w.heap.size w w') : RawOk w' x q :=
  ⟨h.l0, h.l1, h.l2, h.l3, h.s0, h.s1, h.s2, h.b0, h.b1, h.a0.mono hB, h.a1.mono hB, h.a2.mono hB, h.a3.mono hB⟩
def rawVal (x : RawV) (q : RawP) : Value := .agg #[.slice q.pL x.L.length q.cL, .slice q.pA x.A.length q.cA, .slice q.pB x.B.length q.cB, .slice q.pV x.V.length q.cV, .int .i8 x.by']
def great (x : RawV) : Bool := decide (40 < x.L.length) || decide (9 < x.A.length) || decide (9 < x.B.length) || decide (20 < x.V.length)
theorem great_no {x : RawV} (h : great x = false) : x.L.length ≤ 40 ∧ x.A.length ≤ 9 ∧ x.B.length ≤ 9 ∧ x.V.length ≤ 20 := by
  simp [great] at h; omega
theorem byte_cell {w : World} {p : Option Addr} {l : List Nat} {i : Nat} {r : Nat} (h : BytesAt w p l) (hi : l[i]? = some r) : ∃ b off, p = some ⟨b, off, none⟩ ∧ b < w.heap.size ∧ w.cell? ⟨b, off + i, none⟩ = some (.int .u8 r) := by
  rcases h with rfl | ⟨b, off, hp, hb, hc⟩
  · simp at hi
  · exact ⟨b, off, hp, hb, by have := hc i r hi 0 (by omega); simpa [uEnc] using this⟩

set_option maxRecDepth 100000 in
set_option maxHeartbeats 1000000 in
theorem great_any (x : RawV) (q : RawP) (w : World) (h0 : x.L.length ≤ maxLen) (h1 : x.A.length ≤ maxLen) (h2 : x.B.length ≤ maxLen) (h3 : x.V.length ≤ maxLen) :
    Calls Try.prog 40 #[.agg #[.slice q.pL x.L.length q.cL, .slice q.pA x.A.length q.cA, .slice q.pB x.B.length q.cB, .slice q.pV x.V.length q.cV, .int .i8 x.by']] w (RetB w (great x)) := by
  unfold maxLen at h0 h1 h2 h3
  obtain ⟨g, hg⟩ : ∃ g, great x = g := ⟨_, rfl⟩
  rw [hg]
  unfold great at hg
  obtain ⟨L, A, B, V, by'⟩ := x
  dsimp only at *
  by_cases e0 : (40 : Int) < (L.length : Int)
  · obtain rfl : true = g := by rw [← hg]; simp; omega
    clear hg
    go_enter Try.func40, Try.ntmps40
    go_wp2
    go_ret
    exact ⟨rfl, by go_grown⟩
  by_cases e1 : (9 : Int) < (A.length : Int)
  · obtain rfl : true = g := by rw [← hg]; simp; omega
    clear hg
    go_enter Try.func40, Try.ntmps40
    go_wp2
    go_ret
    exact ⟨rfl, by go_grown⟩
  by_cases e2 : (9 : Int) < (B.length : Int)
  · obtain rfl : true = g := by rw [← hg]; simp; omega
    clear hg
    go_enter Try.func40, Try.ntmps40
    go_wp2
    go_ret
    exact ⟨rfl, by go_grown⟩
  by_cases e3 : (20 : Int) < (V.length : Int)
  · obtain rfl : true = g := by rw [← hg]; simp; omega
    clear hg
    go_enter Try.func40, Try.ntmps40
    go_wp2
    go_ret
    exact ⟨rfl, by go_grown⟩
  · obtain rfl : false = g := by rw [← hg]; simp; omega
    clear hg
    go_enter Try.func40, Try.ntmps40
    go_wp2
    go_ret
    exact ⟨rfl, by go_grown⟩

theorem SlAt.mono_below {α : Type} {E : Nat} {enc : α → Nat → Value} {B : Nat} {w w' : World} {p : Option Addr} {xs : List α} (h : SlAt E enc w p xs) (hB : Below B w w') (hb : xs = [] ∨ ∀ a, p = some a → a.block < B) : SlAt E enc w' p xs := by
  rcases h with h | ⟨b, off, hp, hbl, hc⟩
  · exact .inl h
  · rcases hb with h | hb
    · exact .inl h
    · exact .inr ⟨b, off, hp, Nat.lt_of_lt_of_le hbl hB.size, fun i x hx j hj => oldcell hB (hc i x hx j hj) (hb _ hp)⟩
/-- A circuit and two slices of references. -/
def RetIn (w : World) (c : List Gate) (a b : List Int) (na nb : Nat) (e : Ending) (w' : World) : Prop :=
  ∃ p cap q cq q2 cq2, e = .returned (.tuple #[.agg #[.slice p c.length cap], .slice q na cq, .slice q2 nb cq2]) ∧ CAt w' p cap c ∧ SA w' q na cq a ∧ SA w' q2 nb cq2 b ∧ Below w.heap.size w w'
theorem owns_grown {w w' : World} {base : Nat} {e : TypeId} {size : Nat} {v : Value} {n : Nat} {xs : List Value} {row : Option Nat} (h : w.ownsRow base e size v n xs) (hg : w.grownBy w' row) (hne : ∀ g, v.ownBlock = some g → some g ≠ row) : w'.ownsRow base e size v n xs := by
  refine ⟨h.1, ?_⟩
  rcases h.2 with h0 | ⟨g, cap, cur, hv, hb, hh, hr⟩
  · exact .inl h0
  · exact .inr ⟨g, cap, cur, hv, hb, by rw [hg.block g (Array.getElem?_eq_some_iff.1 hh).1 (hne g (by rw [hv]; rfl))]; exact hh, hr⟩
theorem map_take_snoc {α β : Type} (f : α → β) (l : List α) {K : Nat} {r : α} (h : l[K]? = some r) : (l.take (K + 1)).map f = (l.take K).map f ++ [f r] := by
  obtain ⟨hk, he⟩ := List.getElem?_eq_some_iff.1 h
  rw [List.take_succ_eq_append_getElem hk, he, List.map_append]; rfl

set_option maxRecDepth 100000 in
set_option maxHeartbeats 8000000 in
theorem inputs_any (x : RawV) (q : RawP) (w : World) (hx : RawOk w x q) (h0 : x.L.length ≤ 40) (h1 : x.A.length ≤ 9) (h2 : x.B.length ≤ 9) (c : List Gate) (refs : List Int) (hcb : cbuild x.L = (c, refs)) :
    Calls Try.prog 41 #[.agg #[.slice q.pL x.L.length q.cL, .slice q.pA x.A.length q.cA, .slice q.pB x.B.length q.cB, .slice q.pV x.V.length q.cV, .int .i8 x.by']] w (RetIn w c (x.A.map (cpick refs)) (x.B.map (cpick refs)) x.A.length x.B.length) := by
  obtain ⟨i0, hi0, hz0, hz1, hz2⟩ := info_parts int_info
  obtain ⟨L, A, B, V, by'⟩ := x
  obtain ⟨pL, cL, pA, cA, pB, cB, pV, cV⟩ := q
  dsimp only at *
  have HX := Lib.hid hx; have HCB := Lib.hid hcb
  have hle := cbuild_le L
  rw [hcb] at hle
  obtain ⟨hcl, hrl, hrn⟩ := hle
  dsimp only at hcl hrl hrn
  have hrn2 : refs.length ≤ 20000 := by omega
  have HRL := Lib.hid (show ∀ r ∈ refs, r ≤ 9223372036854775807 from fun r hr => by have := hrl r hr; omega)
  clear hx hcb hrl hrn
  go_enter Try.func41, Try.ntmps41
  go_upto_region 4 with (first | (go_at_call 18; refine (rbuild_any L _ _ _ (by omega) HX.out.s0 (HX.out.a0.mono (by go_grown))).mono ?_; rintro e w2 ⟨p2, cap2, q2, cq2, rfl, u1, u2, u3, u4, u5, u6, u7, u8, hbl⟩; rw [HCB.out] at u1 u4 u5 u8; dsimp only at u1 u4 u5 u8; rw [HCB.out]; dsimp only; have HZ := hbl.size; simp at HZ; have U3 := Lib.hid u3; have U4 := Lib.hid u4; have U7 := Lib.hid u7; have U8 := Lib.hid u8; have j0 := oldcell (b := w.heap.size) (o := 1) (v := .slice pA A.length cA) hbl (by go_cell) (by simp; omega); have j1 := oldcell (b := w.heap.size) (o := 2) (v := .slice pB B.length cB) hbl (by go_cell) (by simp; omega); have j2 := oldcell (b := w.heap.size + 1) (o := 0) (v := .slice none 0 0) hbl (by go_cell) (by simp); have j2f := oldfree (b := w.heap.size + 1) (o := 0) hbl (by go_cell) (by simp); have HBL := Lib.hid (show Below w.heap.size w w2 from Below.trans (by go_grown) (hbl.mono (by simp; omega))); clear u3 u4 u7 u8 hbl))
  obtain ⟨W4, hW4, y5⟩ : ∃ W4, ((w2.alloc (.cells #[.slice p2 c.length cap2] 25)).alloc (.cells #[] 3)).alloc (.cells #[] 3) = W4 ∧ W4.cell? ⟨w2.heap.size, 0, none⟩ = some (.slice p2 c.length cap2) := ⟨_, rfl, by go_cell⟩
  obtain ⟨B0, hB0⟩ : ∃ B0, w2.heap.size + 1 = B0 := ⟨_, rfl⟩
  have z4 : W4.heap.size = B0 + 1 + 1 := by rw [← hW4, ← hB0]; simp
  have O7 : W4.ownsRow B0 3 1 (.slice (some ⟨B0, 0, none⟩) 0 0) 0 (flat 1 iEnc []) := by
    have := World.ownsRow_lit (e := 3) (size := 1) (base := B0) (w2.alloc (.cells #[.slice p2 c.length cap2] 25)) #[] 0 (by simp; omega) (by decide) rfl
    rw [show (w2.alloc (.cells #[.slice p2 c.length cap2] 25)).heap.size = B0 by simp; omega] at this
    rw [← hW4]; exact this.alloc _
  have O8 : W4.ownsRow B0 3 1 (.slice (some ⟨B0 + 1, 0, none⟩) 0 0) 0 (flat 1 iEnc []) := by
    have := World.ownsRow_lit (e := 3) (size := 1) (base := B0) ((w2.alloc (.cells #[.slice p2 c.length cap2] 25)).alloc (.cells #[] 3)) #[] 0 (by simp; omega) (by decide) rfl
    rw [show ((w2.alloc (.cells #[.slice p2 c.length cap2] 25)).alloc (.cells #[] 3)).heap.size = B0 + 1 by simp; omega] at this
    rw [← hW4]; exact this
  have K4 : Below w2.heap.size w2 W4 := by rw [← hW4]; go_grown
  have HK4 := Lib.hid K4
  have y0 := oldcell K4 j0 (by omega)
  have y1 := oldcell K4 j1 (by omega)
  have y2 := oldcell K4 j2 (by omega)
  have y2f := oldfree K4 j2f (by omega)
  have HO7 := Lib.hid O7; have HO8 := Lib.hid O8
  have e2 : w2.heap.size + 1 + 1 = B0 + 1 := by omega
  have E2 := Lib.hid e2; have HB0 := Lib.hid hB0
  simp only [hB0]
  rw [hW4]
  have hw2l : w2.heap.size < B0 := by omega
  clear O7 O8 K4 j0 j1 j2 j2f hW4 hB0 e2
  go_wp2_with fail
  go_loopg [7, 9] A.length (fun N s7 v9 wr => ∃ (K : Nat) (v7 : Value), v9 = .int .i64 K ∧ v7 = s7 ∧ K ≤ A.length ∧ N = A.length - K ∧ wr.ownsRow B0 3 1 v7 ((A.take K).map (cpick refs)).length (flat 1 iEnc ((A.take K).map (cpick refs))) ∧ v7.ownBlock ≠ some (B0 + 1) ∧ wr.ownsRow B0 3 1 (.slice (some ⟨B0 + 1, 0, none⟩) 0 0) 0 (flat 1 iEnc []) ∧ Below B0 W4 wr)
  case atStart => exact ⟨0, _, rfl, rfl, by omega, rfl, HO7.out, by simp [Value.ownBlock], HO8.out, Below.refl _ _⟩
  case round =>
    obtain ⟨K, v7, rfl, rfl, hK, hN, ho7, hne, ho8, hB⟩ := hrel
    have HNk := Lib.hid hN; clear hN
    have hsr : B0 + 1 + 1 ≤ wr.heap.size := by have := hB.size; omega
    have x0 := oldcell hB y0 (by omega)
    have HB := Lib.hid hB; have HO := Lib.hid ho7; have HP := Lib.hid ho8; have HNE := Lib.hid hne
    have hml : ((A.take K).map (cpick refs)).length = K := by simp; omega
    have HML := Lib.hid hml
    have HRr := Lib.hid (show IntsAt wr q2 refs from (U8.out.mono HK4.out).mono_below HB.out (by rcases U8.out with h | ⟨b, off, hp, hb, _⟩; exact .inl h; exact .inr fun a ha => by rw [hp] at ha; cases ha; show b < B0; omega))
    clear hB ho7 ho8 hne hml
    by_cases hlt : K < A.length
    case neg =>
      have hkA : K = A.length := by omega
      have HKA := Lib.hid hkA
      have htk : A.take K = A := by rw [hkA]; exact List.take_length
      have HOa := Lib.hid (show wr.ownsRow B0 3 1 v7 (A.map (cpick refs)).length (flat 1 iEnc (A.map (cpick refs))) by have := HO.out; rw [htk] at this; exact this)
      obtain ⟨q7, c7, hv7, t1, t2, t3, t4⟩ := owns_val (by omega) HOa.out
      subst hv7
      have hal : (A.map (cpick refs)).length = A.length := by simp
      have HAL := Lib.hid hal
      have T3 := Lib.hid t3
      clear HO HML hkA htk t4 t3
      rw [hal]
      clear hal
      go_wp2_with fail
      obtain ⟨w9, hw9⟩ : ∃ v : World, v = wr := ⟨_, rfl⟩
      subst hw9
      go_loopg [8, 10] B.length (fun N s8 v10 wr => ∃ (K : Nat) (v8 : Value), v10 = .int .i64 K ∧ v8 = s8 ∧ K ≤ B.length ∧ N = B.length - K ∧ wr.ownsRow B0 3 1 v8 ((B.take K).map (cpick refs)).length (flat 1 iEnc ((B.take K).map (cpick refs))) ∧ (∀ g, v8.ownBlock = some g → (Value.slice q7 (A.map (cpick refs)).length c7).ownBlock ≠ some g) ∧ wr.ownsRow B0 3 1 (.slice q7 (A.map (cpick refs)).length c7) (A.map (cpick refs)).length (flat 1 iEnc (A.map (cpick refs))) ∧ Below B0 W4 wr)
      case atStart => exact ⟨0, _, rfl, rfl, by omega, rfl, HP.out, (fun g hg => by simp [Value.ownBlock] at hg; rw [← hg]; exact HNE.out), HOa.out, HB.out⟩
      case round =>
        obtain ⟨M, v8, rfl, rfl, hM, hN, ho8, hne, ho7, hB⟩ := hrel
        have HNm := Lib.hid hN; clear hN
        have hsr2 : B0 + 1 + 1 ≤ wr.heap.size := by have := hB.size; omega
        have x1 := oldcell hB y1 (by omega)
        have x2 := oldcell hB y2 (by omega)
        have x2f := oldfree hB y2f (by omega)
        have x5 := oldcell hB y5 (by omega)
        have HB2 := Lib.hid hB; have HO2 := Lib.hid ho8; have HO7' := Lib.hid ho7; have HNE2 := Lib.hid hne
        have hml : ((B.take M).map (cpick refs)).length = M := by simp; omega
        have HML := Lib.hid hml
        have HRr2 := Lib.hid (show IntsAt wr q2 refs from (U8.out.mono HK4.out).mono_below HB2.out (by rcases U8.out with h | ⟨b, off, hp, hb, _⟩; exact .inl h; exact .inr fun a ha => by rw [hp] at ha; cases ha; show b < B0; omega))
        clear hB ho7 ho8 hne hml
        by_cases hlt2 : M < B.length
        case neg =>
          have hkB : M = B.length := by omega
          have htk : B.take M = B := by rw [hkB]; exact List.take_length
          have HOb := Lib.hid (show wr.ownsRow B0 3 1 v8 (B.map (cpick refs)).length (flat 1 iEnc (B.map (cpick refs))) by have := HO2.out; rw [htk] at this; exact this)
          obtain ⟨q8, c8, hv8, b1, b2, b3, b4⟩ := owns_val (by omega) HOb.out
          subst hv8
          have hbl' : (B.map (cpick refs)).length = B.length := by simp
          have HBLn := Lib.hid hbl'
          have B3 := Lib.hid b3
          clear hkB htk b4 b3 HO2 HML
          rw [hbl']
          clear hbl'
          go_wp2_with fail
          refine bodyPost_ret (by simp [results, Try.results41, go_sem, x2]; try rfl) rfl ?_
          have hG : GatesAt wr p2 c := (U4.out.mono HK4.out).mono_below HB2.out (by rcases U4.out with h | ⟨b, off, hp, hb, _⟩; exact .inl h; exact .inr fun a ha => by rw [hp] at ha; cases ha; show b < B0; omega)
          obtain ⟨qa, ca, ea, _, _, _, ia⟩ := owns_val (by omega) HO7'.out
          obtain ⟨qb, cb, eb, _, _, _, ib⟩ := owns_val (by omega) HOb.out
          cases ea
          cases eb
          refine ⟨p2, cap2, q7, c7, q8, c8, rfl, ⟨u1, u2, U3.out, hG.setBox x2 (gEnc_ne_slice _ _ _) _⟩, ⟨HAL.out, by rw [← HAL.out]; exact t1, t2, T3.out, ia.setBox x2 (fun x j => by simp [iEnc]) _, fun a ha => ?_⟩, ⟨HBLn.out, by rw [← HBLn.out]; exact b1, b2, B3.out, ib.setBox x2 (fun x j => by simp [iEnc]) _, fun a ha => ?_⟩, Below.setCell ((HBL.out.trans (HK4.out.mono (by omega))).trans (HB2.out.mono (by omega))) (by show _ ≤ w.heap.size + 1; omega) _⟩
          · have := (HO7'.out.lt a.block (by rw [ha]; rfl)).2; simpa using this
          · have := (HOb.out.lt a.block (by rw [ha]; rfl)).2; simpa using this
        case pos =>
          have hlt0 : (0 : Int) ≤ (M : Int) := by omega
          have hlt1 : (M : Int) < (B.length : Int) := by omega
          obtain ⟨r, hr⟩ : ∃ r, B[M]? = some r := ⟨_, List.getElem?_eq_getElem hlt2⟩
          have hr256 := HX.out.s2 r (List.mem_of_getElem? hr)
          have HS := Lib.hid (map_take_snoc (cpick refs) B hr)
          obtain ⟨b, off, rfl, hb, hcl⟩ := byte_cell HX.out.a2 hr
          have j5 := oldcell HB2.out (oldcell HK4.out (oldcell HBL.out hcl hb) (by have := HBL.out.size; omega)) (by have := HBL.out.size; omega)
          clear hr hcl
          obtain ⟨z, hz⟩ : ∃ z, cpick refs r = z := ⟨_, rfl⟩
          have HZ1 := Lib.hid hz; clear hz
          go_wp2_with (first | (go_at_call 37; refine (pick_any refs r q2 cq2 _ hr256 hrn2 HRL.out HRr2.out).mono ?_; rintro e w' ⟨he, hw⟩; replace hw := hw.symm; subst hw; rw [HZ1.out] at he; subst he) | (at_builtin; go_must (refine wpList_app2 (enc := iEnc) rfl _ _ _ rfl B0 3 i0 _ 8 Try.underlying28 hi0 hz0 hz1 hz2 rfl (by omega) _ ((B.take M).map (cpick refs)) rfl (HO2.out.alloc _) (some ⟨wr.heap.size, 0, none⟩) [z] 1 rfl (fun h => by cases h) (SlAt.int1 (by go_cell)) iEnc_one (by rw [HML.out]; simp [maxLen]; omega) (by rw [HML.out]; simp; omega) (by simp; omega) ?_); intro v2 w3 hown2 hgr2 hbl2 hat2; have HOW2 := Lib.hid hown2; have HGR2 := Lib.hid hgr2; have HBL2 := Lib.hid hbl2; have HAT2 := Lib.hid hat2; clear hown2 hgr2 hbl2 hat2))
          go_roundg (B.length - (M + 1))
          case measure => (have := HNm.out; omega)
          case rel =>
            refine ⟨M + 1, _, by go_num, rfl, by omega, rfl, ?_, ?_, ?_, HB2.out.trans (Below.trans (Below.alloc (Below.refl _ _) (by omega) _) HBL2.out)⟩
            · rw [HS.out, HZ1.out]; exact HOW2.out
            · intro g hg h7
              rcases HAT2.out with h | h
              · rw [h] at hg; exact HNE2.out g hg h7
              · rw [h] at hg
                have := (HO7'.out.lt g h7).2
                simp at hg; omega
            · refine owns_grown (HO7'.out.alloc _) HGR2.out (fun g hg h8 => ?_)
              exact HNE2.out g h8.symm hg
    case pos =>
      have hlt0 : (0 : Int) ≤ (K : Int) := by omega
      have hlt1 : (K : Int) < (A.length : Int) := by omega
      obtain ⟨r, hr⟩ : ∃ r, A[K]? = some r := ⟨_, List.getElem?_eq_getElem hlt⟩
      have hr256 := HX.out.s1 r (List.mem_of_getElem? hr)
      have HS := Lib.hid (map_take_snoc (cpick refs) A hr)
      obtain ⟨b, off, rfl, hb, hcl⟩ := byte_cell HX.out.a1 hr
      have j5 := oldcell HB.out (oldcell HK4.out (oldcell HBL.out hcl hb) (by have := HBL.out.size; omega)) (by have := HBL.out.size; omega)
      clear hr hcl
      obtain ⟨z, hz⟩ : ∃ z, cpick refs r = z := ⟨_, rfl⟩
      have HZ1 := Lib.hid hz; clear hz
      go_wp2_with (first | (go_at_call 37; refine (pick_any refs r q2 cq2 _ hr256 hrn2 HRL.out HRr.out).mono ?_; rintro e w' ⟨he, hw⟩; replace hw := hw.symm; subst hw; rw [HZ1.out] at he; subst he) | (at_builtin; go_must (refine wpList_app2 (enc := iEnc) rfl _ _ _ rfl B0 3 i0 _ 8 Try.underlying28 hi0 hz0 hz1 hz2 rfl (by omega) _ ((A.take K).map (cpick refs)) rfl (HO.out.alloc _) (some ⟨wr.heap.size, 0, none⟩) [z] 1 rfl (fun h => by cases h) (SlAt.int1 (by go_cell)) iEnc_one (by rw [HML.out]; simp [maxLen]; omega) (by rw [HML.out]; simp; omega) (by simp; omega) ?_); intro v2 w3 hown2 hgr2 hbl2 hat2; have HOW2 := Lib.hid hown2; have HGR2 := Lib.hid hgr2; have HBL2 := Lib.hid hbl2; have HAT2 := Lib.hid hat2; clear hown2 hgr2 hbl2 hat2))
      go_roundg (A.length - (K + 1))
      case measure => (have := HNk.out; omega)
      case rel =>
        refine ⟨K + 1, _, by go_num, rfl, by omega, rfl, ?_, ?_, ?_, HB.out.trans (Below.trans (Below.alloc (Below.refl _ _) (by omega) _) HBL2.out)⟩
        · rw [HS.out, HZ1.out]; exact HOW2.out
        · rcases HAT2.out with h | h
          · rw [h]; exact HNE.out
          · rw [h]; simp; omega
        · refine owns_grown (HP.out.alloc _) HGR2.out (fun g hg => ?_)
          simp [Value.ownBlock] at hg
          rw [← hg]; exact fun h => HNE.out h.symm
end Go.Proofs.Ytanlecgpnknhoaa

