/- Two solvers of the law's own in one memory; calls on slice literals. -/
import Derived.Test.YtdibfjcmgbpnpaaKU
namespace Go.Proofs.Ytdibfjcmgbpnpaa
set_option linter.unusedSimpArgs false
set_option linter.unusedVariables false
open Go.RowKit

structure Two (B : Nat) (w : World) (n : Nat) (o1 : Nat → Option Role) (b1 : Nat) (A1 : List (List Int)) (s1 : SS) (o2 : Nat → Option Role) (b2 : Nat) (A2 : List (List Int)) (s2 : SS) : Prop where
  l : So B w o1 b1 n A1 s1
  r : So B w o2 b2 n A2 s2
  d : ∀ g, o2 g ≠ none → o1 g = none
  z : B ≤ w.heap.size
section
variable {B n b1 b2 : Nat} {w w' : World} {o1 o2 o1' : Nat → Option Role} {A1 A2 A1' : List (List Int)} {s1 s2 s1' : SS}
theorem Two.symm (h : Two B w n o1 b1 A1 s1 o2 b2 A2 s2) : Two B w n o2 b2 A2 s2 o1 b1 A1 s1 := ⟨h.r, h.l, fun g hg => by
  cases ho : o2 g with
  | none => rfl
  | some r => exact absurd (h.d g (by rw [ho]; intro q; cases q)) hg, h.z⟩
theorem Two.up (h : Two B w n o1 b1 A1 s1 o2 b2 A2 s2) (hB : Below w.heap.size w w') : Two B w' n o1 b1 A1 s1 o2 b2 A2 s2 := ⟨h.l.up hB, h.r.up hB, h.d, Nat.le_trans h.z hB.size⟩
theorem Two.left (h : Two B w n o1 b1 A1 s1 o2 b2 A2 s2) (hs : So B w' o1' b1 n A1' s1') (hx : Ext NoX w o1 w' o1') : Two B w' n o1' b1 A1' s1' o2 b2 A2 s2 ∧ Below B w w' := by
  obtain ⟨h1, h2⟩ := h.r.sol.other hx h.d
  exact ⟨⟨hs, ⟨h1, h.r.tag, h.r.gd, h.r.sb⟩, h2, Nat.le_trans h.z hx.size⟩, (hx.low h.l.tag h.z).1⟩
theorem Two.new (h : So B w o1 b1 n A1 s1) (hB : B ≤ w.heap.size) (hw : Below w.heap.size w w') (hr : So w.heap.size w' o2 b2 n A2 s2) : Two B w' n o1 b1 A1 s1 o2 b2 A2 s2 :=
  ⟨h.up hw, ⟨hr.sol, fun g hg => Nat.le_trans hB (hr.tag g hg), hr.gd, hr.sb⟩, fun g hg => by
    cases ho : o1 g with
    | none => rfl
    | some r => have h1 := hr.tag g hg; have h2 := h.sol.lt g (by rw [ho]; intro q; cases q); omega, Nat.le_trans hB hw.size⟩
theorem SI.lit {w : World} {k : Nat} {xs : List Int} (hk : xs.length = k) (hk2 : k ≤ 1000000) {cs : Array Value} {t : TypeId} (hcs : cs.toList = flat 1 iEnc xs) : SI (w.alloc (.cells cs t)) (some ⟨w.heap.size, 0, none⟩) k xs :=
  ⟨by omega, by simp only [maxLen]; omega, (fun q => by cases q), SlAt.block hcs, fun _ a ha => by cases ha; simp⟩
theorem Two.addL (h : Two B w n o1 b1 A1 s1 o2 b2 A2 s2) (hn : n ≤ 20000) (hA : A1.length < 60000) {k : Nat} {xs : List Int} (hk : xs.length = k) (hk2 : k ≤ 1000) {cs : Array Value} (hcs : cs.toList = flat 1 iEnc xs) :
    Calls Try.prog 15 #[.pointer (some ⟨b1, 0, none⟩), .slice (some ⟨w.heap.size, 0, none⟩) k k] (w.alloc (.cells cs 3)) fun e w' => e = .returned (.bool (vlit n xs)) ∧ ∃ o', Two B w' n o' b1 (if vlit n xs = true then A1 ++ [xs] else A1) (if vlit n xs = true then s1.add xs else s1) o2 b2 A2 s2 ∧ Below B w w' ∧ Ext NoX w o1 w' o' := by
  have hb : Below w.heap.size w (w.alloc (.cells cs 3)) := by go_grown
  have h2 := h.up hb
  have hlt := h.l.sol.lt
  have hc := h2.l.add_any hn hA (SI.lit (w := w) (t := 3) hk (by omega) hcs) (by omega) (fun _ a ha => .inr (by
    cases ha
    cases ho : o1 w.heap.size with
    | none => rfl
    | some r => have := hlt w.heap.size (by rw [ho]; intro q; cases q); omega)) h2.z
  rw [hk] at hc
  refine hc.mono ?_
  rintro e w' ⟨h1, o', h3, h4⟩
  obtain ⟨h5, h6⟩ := h2.left h3 h4
  exact ⟨h1, o', h5, (hb.mono h.z).trans h6, (Ext.below hb).trans h4 fun _ _ q => q⟩
theorem Two.solL (h : Two B w n o1 b1 A1 s1 o2 b2 A2 s2) (hn : n ≤ 20000) (hA : A1.length ≤ 700000) {k : Nat} {xs : List Int} (hk : xs.length = k) (hk2 : k ≤ 1000) {cs : Array Value} (hcs : cs.toList = flat 1 iEnc xs) (fuel : Int) :
    Calls Try.prog 17 #[.pointer (some ⟨b1, 0, none⟩), .slice (some ⟨w.heap.size, 0, none⟩) k k, .int .i64 fuel] (w.alloc (.cells cs 3)) fun e w' => e = .returned (.int .i64 (solve s1 xs fuel).2) ∧ ∃ o', Two B w' n o' b1 A1 (solve s1 xs fuel).1 o2 b2 A2 s2 ∧ Below B w w' ∧ Ext NoX w o1 w' o' := by
  have hb : Below w.heap.size w (w.alloc (.cells cs 3)) := by go_grown
  have h2 := h.up hb
  have hlt := h.l.sol.lt
  have hc := h2.l.solve_any hn hA (SI.lit (w := w) (t := 3) hk (by omega) hcs) (by omega) (fun _ a ha => .inr (by
    cases ha
    cases ho : o1 w.heap.size with
    | none => rfl
    | some r => have := hlt w.heap.size (by rw [ho]; intro q; cases q); omega)) fuel h2.z
  rw [hk] at hc
  refine hc.mono ?_
  rintro e w' ⟨h1, o', h3, h4⟩
  obtain ⟨h5, h6⟩ := h2.left h3 h4
  exact ⟨h1, o', h5, (hb.mono h.z).trans h6, (Ext.below hb).trans h4 fun _ _ q => q⟩
theorem Two.solN (h : Two B w n o1 b1 A1 s1 o2 b2 A2 s2) (hn : n ≤ 20000) (hA : A1.length ≤ 700000) (fuel : Int) :
    Calls Try.prog 17 #[.pointer (some ⟨b1, 0, none⟩), .slice none 0 0, .int .i64 fuel] w fun e w' => e = .returned (.int .i64 (solve s1 [] fuel).2) ∧ ∃ o', Two B w' n o' b1 A1 (solve s1 [] fuel).1 o2 b2 A2 s2 ∧ Below B w w' ∧ Ext NoX w o1 w' o' := by
  have hc := h.l.solve_any hn hA (p := none) (cap := 0) (l := []) ⟨Nat.le_refl _, Nat.zero_le _, fun _ => rfl, .inl rfl, (fun _ a ha => by cases ha)⟩ (by simp) (fun _ a ha => by cases ha) fuel h.z
  refine hc.mono ?_
  rintro e w' ⟨h1, o', h3, h4⟩
  obtain ⟨h5, h6⟩ := h.left h3 h4
  exact ⟨h1, o', h5, h6, h4⟩
theorem Two.proofL (h : Two B w n o1 b1 A1 s1 o2 b2 A2 s2) (hn : n ≤ 20000) :
    Calls Try.prog 26 #[.pointer (some ⟨b1, 0, none⟩)] w fun e w' => ∃ q cq, e = .returned (.slice q s1.proof.length cq) ∧ PfAt (fun g => w.heap.size ≤ g) w' q cq s1.proof ∧ Below w.heap.size w w' :=
  proof_any (n := n) (A := A1) h.l.sol (by have := h.l.sb.pn; omega) (fun l hl => by have := h.l.sb.pl l hl; omega)
/-- data beside two solvers: blocks that neither of them holds -/
def Un (o1 o2 : Nat → Option Role) : Nat → Prop := fun g => o1 g = none ∧ o2 g = none
theorem Un.step {o1 o1' o2 : Nat → Option Role} (hx : Ext NoX w o1 w' o1') {g : Nat} (h : Un o1 o2 g) (hg : g < w.heap.size) : Un o1' o2 g := ⟨by rw [hx.tag g hg fun q => q]; exact h.1, h.2⟩
theorem PfAt.left {q : Option Addr} {cq : Nat} {P : List (List Int)} (h : PfAt (Un o1 o2) w q cq P) (hx : Ext NoX w o1 w' o1') : PfAt (Un o1' o2) w' q cq P :=
  (h.imp (K' := fun g => Un o1 o2 g ∧ Un o1' o2 g) fun g hg hl => ⟨hg, Un.step hx hg hl⟩).keep hx.size (fun g hg hl => hx.block g hl hg.1.1 fun q => q) |>.imp fun g hg _ => hg.2
theorem PfAt.swap {q : Option Addr} {cq : Nat} {P : List (List Int)} (h : PfAt (Un o1 o2) w q cq P) : PfAt (Un o2 o1) w q cq P := h.imp fun g hg _ => ⟨hg.2, hg.1⟩
theorem Two.fresh (h : Two B w n o1 b1 A1 s1 o2 b2 A2 s2) {g : Nat} (hg : w.heap.size ≤ g) : Un o1 o2 g := by
  constructor
  · cases ho : o1 g with
    | none => rfl
    | some r => have := h.l.sol.lt g (by rw [ho]; intro q; cases q); omega
  · cases ho : o2 g with
    | none => rfl
    | some r => have := h.r.sol.lt g (by rw [ho]; intro q; cases q); omega
/-- a slice of ints beside two solvers -/
structure SIu (w : World) (o1 o2 : Nat → Option Role) (q : Option Addr) (cq : Nat) (l : List Int) : Prop where
  si : SI w q cq l
  un : ∀ a, q = some a → Un o1 o2 a.block ∧ a.block < w.heap.size
theorem SIu.up {q : Option Addr} {cq : Nat} {l : List Int} (h : SIu w o1 o2 q cq l) (hB : Below w.heap.size w w') : SIu w' o1 o2 q cq l := ⟨h.si.up hB, fun a ha => ⟨(h.un a ha).1, Nat.lt_of_lt_of_le (h.un a ha).2 hB.size⟩⟩
theorem SIu.left {q : Option Addr} {cq : Nat} {l : List Int} (h : SIu w o1 o2 q cq l) (hx : Ext NoX w o1 w' o1') : SIu w' o1' o2 q cq l :=
  ⟨h.si.keep hx.size fun a ha => hx.block _ (h.un a ha).2 (h.un a ha).1.1 fun q => q, fun a ha => ⟨Un.step hx (h.un a ha).1 (h.un a ha).2, Nat.lt_of_lt_of_le (h.un a ha).2 hx.size⟩⟩
theorem SIu.swap {q : Option Addr} {cq : Nat} {l : List Int} (h : SIu w o1 o2 q cq l) : SIu w o2 o1 q cq l := ⟨h.si, fun a ha => ⟨⟨(h.un a ha).1.2, (h.un a ha).1.1⟩, (h.un a ha).2⟩⟩
theorem So.core_len {B : Nat} {w : World} {o : Nat → Option Role} {b n : Nat} {A : List (List Int)} {s : SS} (h : So B w o b n A s) : s.core.length ≤ maxLen := by
  obtain ⟨oc, hd, hs⟩ := h.sol.sl
  obtain ⟨p, c, -, hsi⟩ := hs.row_si .core rfl rfl (l := s.core) rfl
  have h1 := hsi.le; have h2 := hsi.cm; omega
end
theorem solve_core {n K : Nat} {A : List (List Int)} {s : SS} (h : Sv n A s) (hk : s.marks = []) (hb : Sb n K s) (l : List Int) (f : Int) : (solve s l f).1.core.length ≤ 2 * n + 2 := by
  have hd : Done n A l s.proof (solve s l f) := by
    by_cases hc : (∀ x ∈ l, LOk n x) ∧ 0 < f
    · exact (solve_ok h hk hc.1 hc.2).1
    · exact (solve_bad h hk hc).1
  have hsb := solve_sb (assume := l) (fuel := f) h hk hb
  rcases hd.oc with q | q | q
  · rw [(hd.unk q).1]; simp
  · rw [(hd.yes q).1]; simp
  · obtain ⟨more, e1, e2⟩ := hd.ext
    have h1 := List.mem_of_getLast? (e2 q)
    have h2 := hsb.pl _ (by rw [e1]; exact List.mem_append_right _ h1)
    rwa [List.length_map] at h2
end Go.Proofs.Ytdibfjcmgbpnpaa
