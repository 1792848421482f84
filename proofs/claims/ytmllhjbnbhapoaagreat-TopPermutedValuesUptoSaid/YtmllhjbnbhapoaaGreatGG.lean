/- Texts WX, WY, WZ, E1, E2, E3, P1, P2, AbW, Sh, P3, P4. Conditions: none. -/
import Derived.Test.YtmllhjbnbhapoaaGreatGF
import Derived.Test.YtmllhjbnbhapoaaGreatGE
import Derived.Test.YtmllhjbnbhapoaaGreatGD
import Derived.Shelf.Small.Bits
import Derived.Shelf.Small.Wraps
import Derived.Shelf.Strconv.Itoa0
import Derived.Shelf.Sort.Plain
import Derived.Ground.Names2Prog
import Derived.Shelf.Slices.Clone
import Derived.Shelf.Slices.CompactI
import Derived.Shelf.Slices.Cells
import Derived.Shelf.Slices.In.SortNone
import Derived.Test.YtmllhjbnbhapoaaGreatProg
import Derived.WalkKit
import Derived.WalkSpells
import Derived.WalkLawsBesides
import Derived.Handy
import Derived.OwnWalk
import Derived.Lib.AppendZerosOnto
set_option linter.unusedSimpArgs false
set_option linter.unusedVariables false
namespace Go.Ab
open Go Go.Proofs
set_option maxRecDepth 10000
abbrev sEq (a b : ByteArray) : Bool := a.toList == b.toList
abbrev sFirst : ByteArray := ⟨#[95, 102, 105, 114, 115, 116]⟩
abbrev sNext : ByteArray := ⟨#[95, 110, 101, 120, 116]⟩
def fArs (nm : ByteArray) (f : Fld) : List Int := if sEq f.name nm then [(f.sorts.length : Int)] else []
def sArs (nm : ByteArray) (s : Srt) : List Int := (if sEq s.name nm then [1] else []) ++ ((if s.ordered && sEq (s.name ++ sFirst) nm then [1] else []) ++ (if s.ordered && sEq (s.name ++ sNext) nm then [2] else []))
def Spc.found (s : Spc) (nm : ByteArray) : List Int := s.fields.flatMap (fArs nm) ++ s.sorts.flatMap (sArs nm)
theorem fm_take {α β : Type} (g : α → List β) (l : List α) {i : Nat} (h : i < l.length) : (l.take (i + 1)).flatMap g = (l.take i).flatMap g ++ g l[i] := by
 rw [List.take_succ_eq_append_getElem h, List.flatMap_append]; simp
def NamR (L : List Int) (y : EV) : Prop := ∃ a f k, y = .tup [.p (setav a f), .p (eI k)] ∧ f.length = 64 ∧ (k ≠ 0 → 1 ≤ a ∧ a ≤ 3) ∧ k = L.length ∧ ∀ b, L.getLast? = some b → a = b
theorem nam_fin {env : Env} {h : AHp} {A : Int} {f : List Bool} {k : Int} {L : List Int} (hf : f.length = 64) (hA : k ≠ 0 → 1 ≤ A ∧ A ≤ 3) (hk : k = L.length) (hl : ∀ b, L.getLast? = some b → A = b) (h2 : lk env 4 = .loc 4 0) (h3 : hp h 4 = .box 240 (setSeg (zeroOf 240) 0 ((setcs A f).map .p))) (hx : lk env 5 = .p (.imm (.int .i64 k))) : ∃ es xs, resAll T env h [.cell 4 240, .tmp 5] = some es ∧ toPs es = some xs ∧ NamR L (retEV xs) := by
 have e : setSeg (zeroOf 240) 0 ((setcs A f).map EV.p) = (setcs A f).map .p := setSeg_all _ _ (by rw [setcs_len, hf]; rfl)
 rw [e] at h3
 exact ⟨_, _, res_cell_tmp rfl h2 h3 rfl (by rw [setcs_len, hf]) hx, toPs_one _ _, A, f, k, rfl, hf, hA, hk, hl⟩
theorem zero_zero : setSeg (zeroOf 240) 0 (zeroOf 240) = (setcs 0 (List.replicate 64 false)).map .p := by
 rw [setSeg_all _ _ rfl]
 have e : zeroOf 240 = .p (eI 0) :: List.replicate 64 (.p (eB false)) := rfl
 rw [e]; simp [setcs, List.map_replicate]
theorem str_add {a b : ByteArray} (h : a.size ≤ 1048576) (hb : b.size ≤ 100) : ((a.size + b.size : Nat) : Int) ≤ 9223372036854775807 := by omega
theorem flat_len {α : Type} (g : α → List Int) (h : ∀ x, (g x).length ≤ 1) (l : List α) (i : Nat) : ((l.take i).flatMap g).length ≤ i := by
 induction l generalizing i with
 | nil => simp
 | cons x r ih => cases i with
  | zero => simp
  | succ i => have := ih i; have := h x; simp only [List.take_succ_cons, List.flatMap_cons, List.length_append]; omega
theorem flat_len3 {α : Type} (g : α → List Int) (h : ∀ x, (g x).length ≤ 3) (l : List α) (i : Nat) : ((l.take i).flatMap g).length ≤ 3 * i := by
 induction l generalizing i with
 | nil => simp
 | cons x r ih => cases i with
  | zero => simp
  | succ i => have := ih i; have := h x; simp only [List.take_succ_cons, List.flatMap_cons, List.length_append]; omega
theorem fArs_len (nm : ByteArray) (f : Fld) : (fArs nm f).length ≤ 1 := by unfold fArs; split <;> simp
theorem sArs_len (nm : ByteArray) (s : Srt) : (sArs nm s).length ≤ 3 := by unfold sArs; split <;> split <;> split <;> simp
theorem found_ok (s : Spc) (hso : ∀ f ∈ s.fields, SortsOk s.sorts.length f.sorts) (nm : ByteArray) : ∀ b ∈ s.found nm, 1 ≤ b ∧ b ≤ 3 := by
 intro b hb
 rcases List.mem_append.1 hb with hb | hb
 · obtain ⟨f, hf, hb⟩ := List.mem_flatMap.1 hb
   unfold fArs at hb
   split at hb
   · obtain rfl := List.mem_singleton.1 hb
     have := (hso f hf).1
     omega
   · cases hb
 · obtain ⟨f, hf, hb⟩ := List.mem_flatMap.1 hb
   unfold sArs at hb
   rcases List.mem_append.1 hb with hb | hb
   · split at hb
     · obtain rfl := List.mem_singleton.1 hb; omega
     · cases hb
   · rcases List.mem_append.1 hb with hb | hb
     · split at hb
       · obtain rfl := List.mem_singleton.1 hb; omega
       · cases hb
     · split at hb
       · obtain rfl := List.mem_singleton.1 hb; omega
       · cases hb
theorem getLast_ok {L : List Int} (h : ∀ b ∈ L, 1 ≤ b ∧ b ≤ 3) : 1 ≤ L.getLast?.getD 1 ∧ L.getLast?.getD 1 ≤ 3 := by
 cases hq : L.getLast? with
 | none => exact ⟨by decide, by decide⟩
 | some b => exact h b (List.mem_of_getLast? hq)
set_option maxHeartbeats 1000000 in
theorem named04 (s : Spc) (hs : s.sorts.length ≤ 4) (hfl : s.fields.length ≤ 1000) (hso : ∀ f ∈ s.fields, SortsOk s.sorts.length f.sorts) (hnm : ∀ x ∈ s.sorts, x.name.size ≤ 1048576) (nm : ByteArray) : ∃ y, NamR (s.found nm) y ∧ AFun Tryz.prog 224 [s.ex, eS nm] y := by
 have hfo := found_ok s hso nm
 refine AFunE.intro hT Tryz.func224 rfl rfl (by simp) ⟨_, ((s.found nm).getLast?).getD 1, List.replicate 64 false, _, rfl, List.length_replicate, fun _ => getLast_ok hfo, rfl, fun b hb => by rw [hb]; rfl⟩ (AD.run hT hmix ?_)
 have hl1 : (s.sorts.map Srt.av).length = s.sorts.length := List.length_map _
 have hl2 : (s.fields.map Fld.av).length = s.fields.length := List.length_map _
 refine AD.loopI (fun x : Nat × Sx × Nat => x.1 ≤ s.fields.length ∧ x.2.2 = ((s.fields.take x.1).flatMap (fArs nm)).length ∧ x.2.1.2.length = 64 ∧ (x.2.2 ≠ 0 → 1 ≤ x.2.1.1 ∧ x.2.1.1 ≤ 3) ∧ ∀ b, ((s.fields.take x.1).flatMap (fArs nm)).getLast? = some b → x.2.1.1 = b) (fun x => s.fields.length - x.1) (fun x => [(1, .p (eS nm)), (2, .loc 2 0), (4, .loc 4 0), (5, eint .i64 0), (6, .loc 6 0), (7, eint .i64 x.2.2), (8, eint .i64 x.1)]) (fun x => [(2, .box 27 (s.cx.map .p)), (4, .box 240 (zeroOf 240)), (6, .box 240 ((setcs x.2.1.1 x.2.1.2).map .p))]) (0, (0, List.replicate 64 false), 0) ⟨Nat.zero_le _, rfl, List.length_replicate, fun h => absurd rfl h, by simp⟩ (.of (h2 := ⟨⟨rfl, .inr ⟨rfl, okL_p _ _⟩⟩, ⟨⟨rfl, .inr ⟨rfl, rfl⟩⟩, ⟨⟨rfl, .inr ⟨zero_zero, okL_p _ _⟩⟩, trivial⟩⟩⟩)) fun ⟨i, ⟨a, r⟩, k⟩ ⟨hi, hk, hr, ha, hla⟩ => AD.run hT hmix ?_
 dsimp only at hi hk hr ha hla ⊢
 have hkb : k ≤ i := by rw [hk]; exact flat_len _ (fArs_len nm) _ i
 intro _
 refine bgo_split (fun hb => ?_) (fun hb => ?_)
 · replace hb := of_decide_eq_true hb
   have hlt : i < s.fields.length := by omega
   refine igo_map i rfl hlt ?_
   have hq := hso _ (List.getElem_mem hlt)
   refine bgo_split (fun hc => ?_) (fun hc => ?_)
   · have e : fArs nm s.fields[i] = [(s.fields[i].sorts.length : Int)] := if_pos hc
     obtain ⟨g, hg, ho⟩ := one04 s.fields[i].sorts hq.1.2 (fun x hx => by have := hq.2 x hx; omega)
     refine igo_map i rfl hlt (.pure _ _ rfl ho ?_)
     refine bgo_true (by rw [Bool.and_eq_true, Bool.and_eq_true]; exact ⟨len_beq hg, Nat.ble_eq_true_of_le (by rw [setcs_len]; show 0 + 65 ≤ _; omega), rfl⟩) ?_
     generalize hy : setSeg ((setcs a r).map EV.p) _ _ = y
     obtain rfl : y = (setcs (s.fields[i].sorts.length : Int) g).map .p := hy.symm.trans (setSeg_all ((setcs a r).map EV.p) ((setcs (s.fields[i].sorts.length : Int) g).map EV.p) (by rw [setcs_len, setcs_len, hr, hg]))
     clear hy
     refine ngo_in (by omega) (by omega) (ngo_in (by omega) (by omega) ?_)
     exact ⟨(i + 1, ((s.fields[i].sorts.length : Int), g), k + 1), ⟨by dsimp only; omega, (by dsimp only; rw [fm_take _ _ hlt, e, List.length_append, ← hk]; rfl), hg, fun _ => (by have := hq.1; dsimp only; omega), (by dsimp only; intro b hb; rw [fm_take _ _ hlt, e] at hb; simp at hb; omega)⟩, by dsimp only; omega, .of (h2 := ⟨⟨rfl, .inr ⟨rfl, okL_p _ _⟩⟩, ⟨⟨rfl, .inr ⟨rfl, rfl⟩⟩, ⟨⟨rfl, .inr ⟨rfl, okL_p _ _⟩⟩, trivial⟩⟩⟩)⟩
   · have e : fArs nm s.fields[i] = [] := if_neg (Bool.eq_false_iff.1 hc)
     exact ngo_in (by omega) (by omega) ⟨(i + 1, (a, r), k), ⟨by dsimp only; omega, (by dsimp only; rw [fm_take _ _ hlt, e, List.append_nil]; exact hk), hr, ha, (by dsimp only; rw [fm_take _ _ hlt, e, List.append_nil]; exact hla)⟩, by dsimp only; omega, .of (h2 := ⟨⟨rfl, .inr ⟨rfl, okL_p _ _⟩⟩, ⟨⟨rfl, .inr ⟨rfl, rfl⟩⟩, ⟨⟨rfl, .inr ⟨rfl, okL_p _ _⟩⟩, trivial⟩⟩⟩)⟩
 · replace hb := of_decide_eq_false hb
   obtain rfl : i = s.fields.length := by omega
   rw [List.take_length] at hk hla
   refine AD.loopI (fun x : Nat × Sx × Nat => x.1 ≤ s.sorts.length ∧ x.2.2 = (s.fields.flatMap (fArs nm) ++ (s.sorts.take x.1).flatMap (sArs nm)).length ∧ x.2.1.2.length = 64 ∧ (x.2.2 ≠ 0 → 1 ≤ x.2.1.1 ∧ x.2.1.1 ≤ 3) ∧ ∀ b, (s.fields.flatMap (fArs nm) ++ (s.sorts.take x.1).flatMap (sArs nm)).getLast? = some b → x.2.1.1 = b) (fun x => s.sorts.length - x.1) (fun x => [(1, .p (eS nm)), (2, .loc 2 0), (4, .loc 4 0), (5, eint .i64 0), (6, .loc 6 0), (7, eint .i64 x.2.2), (9, eint .i64 x.1)]) (fun x => [(2, .box 27 (s.cx.map .p)), (4, .box 240 (zeroOf 240)), (6, .box 240 ((setcs x.2.1.1 x.2.1.2).map .p))]) (0, (a, r), k) ⟨Nat.zero_le _, (by simpa using hk), hr, ha, (by simpa using hla)⟩ (.of (h2 := ⟨⟨rfl, .inr ⟨rfl, okL_p _ _⟩⟩, ⟨⟨rfl, .inr ⟨rfl, rfl⟩⟩, ⟨⟨rfl, .inr ⟨rfl, okL_p _ _⟩⟩, trivial⟩⟩⟩)) fun ⟨j, ⟨a, r⟩, k⟩ ⟨hj, hk, hr, ha, hla⟩ => AD.run hT hmix ?_
   dsimp only at hj hk hr ha hla ⊢
   have hkb : k ≤ s.fields.length + 3 * j := by rw [hk, List.length_append]; have h1 := flat_len _ (fArs_len nm) s.fields s.fields.length; rw [List.take_length] at h1; have h2 := flat_len3 _ (sArs_len nm) s.sorts j; omega
   intro _
   refine bgo_split (fun hb => ?_) (fun hb => ?_)
   · replace hb := of_decide_eq_true hb
     have hlt : j < s.sorts.length := by omega
     have hz := hnm _ (List.getElem_mem hlt)
     refine igo_map j rfl hlt ?_
     refine bgo_split (fun h0 => ?_) (fun h0 => ?_)
     · skip
       obtain ⟨g0, hg0, hog0⟩ := one04 [(j : Int)] (by simp) (by simp; omega)
       refine .pure [ints [(j : Int)]] _ rfl hog0 ?_
       refine bgo_true (by rw [Bool.and_eq_true, Bool.and_eq_true]; exact ⟨len_beq hg0, Nat.ble_eq_true_of_le (by rw [setcs_len]; show 0 + 65 ≤ _; omega), rfl⟩) ?_
       generalize hy : setSeg ((setcs a r).map EV.p) _ _ = y
       obtain rfl : y = (setcs (([(j : Int)] : List Int).length : Int) g0).map .p := hy.symm.trans (setSeg_all ((setcs a r).map EV.p) ((setcs (([(j : Int)] : List Int).length : Int) g0).map EV.p) (by rw [setcs_len, setcs_len, hr, hg0]))
       clear hy
       refine ngo_in (by omega) (by omega) ?_
       refine igo_map j rfl hlt ?_
       refine bgo_split (fun o1 => ?_) (fun o1 => ?_)
       · refine igo_map j rfl hlt ?_
         refine ⟨str_add hz (by decide), ?_⟩
         refine bgo_split (fun h1 => ?_) (fun h1 => ?_)
         · skip
           obtain ⟨g1, hg1, hog1⟩ := one04 [(j : Int)] (by simp) (by simp; omega)
           refine .pure [ints [(j : Int)]] _ rfl hog1 ?_
           refine bgo_true (by rw [Bool.and_eq_true, Bool.and_eq_true]; exact ⟨len_beq hg1, Nat.ble_eq_true_of_le (by rw [setcs_len]; show 0 + 65 ≤ _; omega), rfl⟩) ?_
           generalize hy : setSeg ((setcs (([(j : Int)] : List Int).length : Int) g0).map EV.p) _ _ = y
           obtain rfl : y = (setcs (([(j : Int)] : List Int).length : Int) g1).map .p := hy.symm.trans (setSeg_all ((setcs (([(j : Int)] : List Int).length : Int) g0).map EV.p) ((setcs (([(j : Int)] : List Int).length : Int) g1).map EV.p) (by rw [setcs_len, setcs_len, hg0, hg1]))
           clear hy
           refine ngo_in (by omega) (by omega) ?_
           refine igo_map j rfl hlt (bgo_true o1 (igo_map j rfl hlt ?_))
           refine ⟨str_add hz (by decide), ?_⟩
           refine bgo_split (fun h2 => ?_) (fun h2 => ?_)
           · skip
             obtain ⟨g2, hg2, hog2⟩ := one04 [(j : Int), (j : Int)] (by simp) (by simp; omega)
             refine .pure [ints [(j : Int), (j : Int)]] _ rfl hog2 ?_
             refine bgo_true (by rw [Bool.and_eq_true, Bool.and_eq_true]; exact ⟨len_beq hg2, Nat.ble_eq_true_of_le (by rw [setcs_len]; show 0 + 65 ≤ _; omega), rfl⟩) ?_
             generalize hy : setSeg ((setcs (([(j : Int)] : List Int).length : Int) g1).map EV.p) _ _ = y
             obtain rfl : y = (setcs (([(j : Int), (j : Int)] : List Int).length : Int) g2).map .p := hy.symm.trans (setSeg_all ((setcs (([(j : Int)] : List Int).length : Int) g1).map EV.p) ((setcs (([(j : Int), (j : Int)] : List Int).length : Int) g2).map EV.p) (by rw [setcs_len, setcs_len, hg1, hg2]))
             clear hy
             refine ngo_in (by omega) (by omega) ?_
             have e : sArs nm s.sorts[j] = [1, 1, 2] := by simp [sArs, h0, o1, h1, h2]
             refine ngo_in (by omega) (by omega) ?_
             exact ⟨(j + 1, ((([(j : Int), (j : Int)] : List Int).length : Int), g2), (((k + 1) + 1) + 1)), ⟨by dsimp only; omega, (by dsimp only; rw [fm_take _ _ hlt, e, List.length_append, List.length_append]; rw [List.length_append] at hk; simp only [List.length_cons, List.length_nil]; omega), hg2, fun _ => (by simp), (by dsimp only; intro b hb; rw [fm_take _ _ hlt, e] at hb; simp at hb ⊢ <;> omega)⟩, by dsimp only; omega, .of (h2 := ⟨⟨rfl, .inr ⟨rfl, okL_p _ _⟩⟩, ⟨⟨rfl, .inr ⟨rfl, rfl⟩⟩, ⟨⟨rfl, .inr ⟨rfl, okL_p _ _⟩⟩, trivial⟩⟩⟩)⟩
           · skip
             have e : sArs nm s.sorts[j] = [1, 1] := by simp [sArs, h0, o1, h1, h2]
             refine ngo_in (by omega) (by omega) ?_
             exact ⟨(j + 1, ((([(j : Int)] : List Int).length : Int), g1), ((k + 1) + 1)), ⟨by dsimp only; omega, (by dsimp only; rw [fm_take _ _ hlt, e, List.length_append, List.length_append]; rw [List.length_append] at hk; simp only [List.length_cons, List.length_nil]; omega), hg1, fun _ => (by simp), (by dsimp only; intro b hb; rw [fm_take _ _ hlt, e] at hb; simp at hb ⊢ <;> omega)⟩, by dsimp only; omega, .of (h2 := ⟨⟨rfl, .inr ⟨rfl, okL_p _ _⟩⟩, ⟨⟨rfl, .inr ⟨rfl, rfl⟩⟩, ⟨⟨rfl, .inr ⟨rfl, okL_p _ _⟩⟩, trivial⟩⟩⟩)⟩
         · skip
           refine igo_map j rfl hlt (bgo_true o1 (igo_map j rfl hlt ?_))
           refine ⟨str_add hz (by decide), ?_⟩
           refine bgo_split (fun h2 => ?_) (fun h2 => ?_)
           · skip
             obtain ⟨g2, hg2, hog2⟩ := one04 [(j : Int), (j : Int)] (by simp) (by simp; omega)
             refine .pure [ints [(j : Int), (j : Int)]] _ rfl hog2 ?_
             refine bgo_true (by rw [Bool.and_eq_true, Bool.and_eq_true]; exact ⟨len_beq hg2, Nat.ble_eq_true_of_le (by rw [setcs_len]; show 0 + 65 ≤ _; omega), rfl⟩) ?_
             generalize hy : setSeg ((setcs (([(j : Int)] : List Int).length : Int) g0).map EV.p) _ _ = y
             obtain rfl : y = (setcs (([(j : Int), (j : Int)] : List Int).length : Int) g2).map .p := hy.symm.trans (setSeg_all ((setcs (([(j : Int)] : List Int).length : Int) g0).map EV.p) ((setcs (([(j : Int), (j : Int)] : List Int).length : Int) g2).map EV.p) (by rw [setcs_len, setcs_len, hg0, hg2]))
             clear hy
             refine ngo_in (by omega) (by omega) ?_
             have e : sArs nm s.sorts[j] = [1, 2] := by simp [sArs, h0, o1, h1, h2]
             refine ngo_in (by omega) (by omega) ?_
             exact ⟨(j + 1, ((([(j : Int), (j : Int)] : List Int).length : Int), g2), ((k + 1) + 1)), ⟨by dsimp only; omega, (by dsimp only; rw [fm_take _ _ hlt, e, List.length_append, List.length_append]; rw [List.length_append] at hk; simp only [List.length_cons, List.length_nil]; omega), hg2, fun _ => (by simp), (by dsimp only; intro b hb; rw [fm_take _ _ hlt, e] at hb; simp at hb ⊢ <;> omega)⟩, by dsimp only; omega, .of (h2 := ⟨⟨rfl, .inr ⟨rfl, okL_p _ _⟩⟩, ⟨⟨rfl, .inr ⟨rfl, rfl⟩⟩, ⟨⟨rfl, .inr ⟨rfl, okL_p _ _⟩⟩, trivial⟩⟩⟩)⟩
           · skip
             have e : sArs nm s.sorts[j] = [1] := by simp [sArs, h0, o1, h1, h2]
             refine ngo_in (by omega) (by omega) ?_
             exact ⟨(j + 1, ((([(j : Int)] : List Int).length : Int), g0), (k + 1)), ⟨by dsimp only; omega, (by dsimp only; rw [fm_take _ _ hlt, e, List.length_append, List.length_append]; rw [List.length_append] at hk; simp only [List.length_cons, List.length_nil]; omega), hg0, fun _ => (by simp), (by dsimp only; intro b hb; rw [fm_take _ _ hlt, e] at hb; simp at hb ⊢ <;> omega)⟩, by dsimp only; omega, .of (h2 := ⟨⟨rfl, .inr ⟨rfl, okL_p _ _⟩⟩, ⟨⟨rfl, .inr ⟨rfl, rfl⟩⟩, ⟨⟨rfl, .inr ⟨rfl, okL_p _ _⟩⟩, trivial⟩⟩⟩)⟩
       · refine igo_map j rfl hlt (bgo_false o1 ?_)
         have e : sArs nm s.sorts[j] = [1] := by simp [sArs, h0, o1]
         refine ngo_in (by omega) (by omega) ?_
         exact ⟨(j + 1, ((([(j : Int)] : List Int).length : Int), g0), (k + 1)), ⟨by dsimp only; omega, (by dsimp only; rw [fm_take _ _ hlt, e, List.length_append, List.length_append]; rw [List.length_append] at hk; simp only [List.length_cons, List.length_nil]; omega), hg0, fun _ => (by simp), (by dsimp only; intro b hb; rw [fm_take _ _ hlt, e] at hb; simp at hb ⊢ <;> omega)⟩, by dsimp only; omega, .of (h2 := ⟨⟨rfl, .inr ⟨rfl, okL_p _ _⟩⟩, ⟨⟨rfl, .inr ⟨rfl, rfl⟩⟩, ⟨⟨rfl, .inr ⟨rfl, okL_p _ _⟩⟩, trivial⟩⟩⟩)⟩
     · skip
       refine igo_map j rfl hlt ?_
       refine bgo_split (fun o1 => ?_) (fun o1 => ?_)
       · refine igo_map j rfl hlt ?_
         refine ⟨str_add hz (by decide), ?_⟩
         refine bgo_split (fun h1 => ?_) (fun h1 => ?_)
         · skip
           obtain ⟨g1, hg1, hog1⟩ := one04 [(j : Int)] (by simp) (by simp; omega)
           refine .pure [ints [(j : Int)]] _ rfl hog1 ?_
           refine bgo_true (by rw [Bool.and_eq_true, Bool.and_eq_true]; exact ⟨len_beq hg1, Nat.ble_eq_true_of_le (by rw [setcs_len]; show 0 + 65 ≤ _; omega), rfl⟩) ?_
           generalize hy : setSeg ((setcs a r).map EV.p) _ _ = y
           obtain rfl : y = (setcs (([(j : Int)] : List Int).length : Int) g1).map .p := hy.symm.trans (setSeg_all ((setcs a r).map EV.p) ((setcs (([(j : Int)] : List Int).length : Int) g1).map EV.p) (by rw [setcs_len, setcs_len, hr, hg1]))
           clear hy
           refine ngo_in (by omega) (by omega) ?_
           refine igo_map j rfl hlt (bgo_true o1 (igo_map j rfl hlt ?_))
           refine ⟨str_add hz (by decide), ?_⟩
           refine bgo_split (fun h2 => ?_) (fun h2 => ?_)
           · skip
             obtain ⟨g2, hg2, hog2⟩ := one04 [(j : Int), (j : Int)] (by simp) (by simp; omega)
             refine .pure [ints [(j : Int), (j : Int)]] _ rfl hog2 ?_
             refine bgo_true (by rw [Bool.and_eq_true, Bool.and_eq_true]; exact ⟨len_beq hg2, Nat.ble_eq_true_of_le (by rw [setcs_len]; show 0 + 65 ≤ _; omega), rfl⟩) ?_
             generalize hy : setSeg ((setcs (([(j : Int)] : List Int).length : Int) g1).map EV.p) _ _ = y
             obtain rfl : y = (setcs (([(j : Int), (j : Int)] : List Int).length : Int) g2).map .p := hy.symm.trans (setSeg_all ((setcs (([(j : Int)] : List Int).length : Int) g1).map EV.p) ((setcs (([(j : Int), (j : Int)] : List Int).length : Int) g2).map EV.p) (by rw [setcs_len, setcs_len, hg1, hg2]))
             clear hy
             refine ngo_in (by omega) (by omega) ?_
             have e : sArs nm s.sorts[j] = [1, 2] := by simp [sArs, h0, o1, h1, h2]
             refine ngo_in (by omega) (by omega) ?_
             exact ⟨(j + 1, ((([(j : Int), (j : Int)] : List Int).length : Int), g2), ((k + 1) + 1)), ⟨by dsimp only; omega, (by dsimp only; rw [fm_take _ _ hlt, e, List.length_append, List.length_append]; rw [List.length_append] at hk; simp only [List.length_cons, List.length_nil]; omega), hg2, fun _ => (by simp), (by dsimp only; intro b hb; rw [fm_take _ _ hlt, e] at hb; simp at hb ⊢ <;> omega)⟩, by dsimp only; omega, .of (h2 := ⟨⟨rfl, .inr ⟨rfl, okL_p _ _⟩⟩, ⟨⟨rfl, .inr ⟨rfl, rfl⟩⟩, ⟨⟨rfl, .inr ⟨rfl, okL_p _ _⟩⟩, trivial⟩⟩⟩)⟩
           · skip
             have e : sArs nm s.sorts[j] = [1] := by simp [sArs, h0, o1, h1, h2]
             refine ngo_in (by omega) (by omega) ?_
             exact ⟨(j + 1, ((([(j : Int)] : List Int).length : Int), g1), (k + 1)), ⟨by dsimp only; omega, (by dsimp only; rw [fm_take _ _ hlt, e, List.length_append, List.length_append]; rw [List.length_append] at hk; simp only [List.length_cons, List.length_nil]; omega), hg1, fun _ => (by simp), (by dsimp only; intro b hb; rw [fm_take _ _ hlt, e] at hb; simp at hb ⊢ <;> omega)⟩, by dsimp only; omega, .of (h2 := ⟨⟨rfl, .inr ⟨rfl, okL_p _ _⟩⟩, ⟨⟨rfl, .inr ⟨rfl, rfl⟩⟩, ⟨⟨rfl, .inr ⟨rfl, okL_p _ _⟩⟩, trivial⟩⟩⟩)⟩
         · skip
           refine igo_map j rfl hlt (bgo_true o1 (igo_map j rfl hlt ?_))
           refine ⟨str_add hz (by decide), ?_⟩
           refine bgo_split (fun h2 => ?_) (fun h2 => ?_)
           · skip
             obtain ⟨g2, hg2, hog2⟩ := one04 [(j : Int), (j : Int)] (by simp) (by simp; omega)
             refine .pure [ints [(j : Int), (j : Int)]] _ rfl hog2 ?_
             refine bgo_true (by rw [Bool.and_eq_true, Bool.and_eq_true]; exact ⟨len_beq hg2, Nat.ble_eq_true_of_le (by rw [setcs_len]; show 0 + 65 ≤ _; omega), rfl⟩) ?_
             generalize hy : setSeg ((setcs a r).map EV.p) _ _ = y
             obtain rfl : y = (setcs (([(j : Int), (j : Int)] : List Int).length : Int) g2).map .p := hy.symm.trans (setSeg_all ((setcs a r).map EV.p) ((setcs (([(j : Int), (j : Int)] : List Int).length : Int) g2).map EV.p) (by rw [setcs_len, setcs_len, hr, hg2]))
             clear hy
             refine ngo_in (by omega) (by omega) ?_
             have e : sArs nm s.sorts[j] = [2] := by simp [sArs, h0, o1, h1, h2]
             refine ngo_in (by omega) (by omega) ?_
             exact ⟨(j + 1, ((([(j : Int), (j : Int)] : List Int).length : Int), g2), (k + 1)), ⟨by dsimp only; omega, (by dsimp only; rw [fm_take _ _ hlt, e, List.length_append, List.length_append]; rw [List.length_append] at hk; simp only [List.length_cons, List.length_nil]; omega), hg2, fun _ => (by simp), (by dsimp only; intro b hb; rw [fm_take _ _ hlt, e] at hb; simp at hb ⊢ <;> omega)⟩, by dsimp only; omega, .of (h2 := ⟨⟨rfl, .inr ⟨rfl, okL_p _ _⟩⟩, ⟨⟨rfl, .inr ⟨rfl, rfl⟩⟩, ⟨⟨rfl, .inr ⟨rfl, okL_p _ _⟩⟩, trivial⟩⟩⟩)⟩
           · skip
             have e : sArs nm s.sorts[j] = [] := by simp [sArs, h0, o1, h1, h2]
             refine ngo_in (by omega) (by omega) ?_
             exact ⟨(j + 1, (a, r), k), ⟨by dsimp only; omega, (by dsimp only; rw [fm_take _ _ hlt, e, List.length_append, List.length_append]; rw [List.length_append] at hk; simp only [List.length_cons, List.length_nil]; omega), hr, ha, (by dsimp only; rw [fm_take _ _ hlt, e, List.append_nil]; exact hla)⟩, by dsimp only; omega, .of (h2 := ⟨⟨rfl, .inr ⟨rfl, okL_p _ _⟩⟩, ⟨⟨rfl, .inr ⟨rfl, rfl⟩⟩, ⟨⟨rfl, .inr ⟨rfl, okL_p _ _⟩⟩, trivial⟩⟩⟩)⟩
       · refine igo_map j rfl hlt (bgo_false o1 ?_)
         have e : sArs nm s.sorts[j] = [] := by simp [sArs, h0, o1]
         refine ngo_in (by omega) (by omega) ?_
         exact ⟨(j + 1, (a, r), k), ⟨by dsimp only; omega, (by dsimp only; rw [fm_take _ _ hlt, e, List.length_append, List.length_append]; rw [List.length_append] at hk; simp only [List.length_cons, List.length_nil]; omega), hr, ha, (by dsimp only; rw [fm_take _ _ hlt, e, List.append_nil]; exact hla)⟩, by dsimp only; omega, .of (h2 := ⟨⟨rfl, .inr ⟨rfl, okL_p _ _⟩⟩, ⟨⟨rfl, .inr ⟨rfl, rfl⟩⟩, ⟨⟨rfl, .inr ⟨rfl, okL_p _ _⟩⟩, trivial⟩⟩⟩)⟩
   · replace hb := of_decide_eq_false hb
     obtain rfl : j = s.sorts.length := by omega
     rw [List.take_length] at hk hla
     refine bgo_true (Nat.ble_eq_true_of_le (by rw [setcs_len]; show 0 + 65 ≤ _; omega)) ?_
     generalize hz : List.take _ (List.drop _ ((setcs a r).map EV.p)) = z
     obtain rfl : z = (setcs a r).map .p := hz.symm.trans (take_setcs a r hr)
     clear hz
     refine bgo_true (by rw [Bool.and_eq_true, Bool.and_eq_true]; exact ⟨by rw [setcs_len, hr]; rfl, rfl, rfl⟩) ?_
     exact nam_fin (L := s.found nm) hr (fun h => ha (by omega)) (by rw [hk]; rfl) hla rfl rfl rfl
abbrev Vr := ByteArray × Sx
def vty (v : Vr) : ByteArray × Int := (v.1, v.2.1)
def Vr.cs (v : Vr) : List AV := eS v.1 :: setcs v.2.1 v.2.2
def Vr.av (v : Vr) : AV := .agg v.cs
theorem fill_var (nm : ByteArray) (a : Int) (f : List Bool) (hf : f.length = 64) : ∀ ti, T.get 294 = some ti → fillE (placeOf ti) ti.zero [(0, .p (eS nm)), (1, .p (setav a f))] = some ((eS nm :: setcs a f).map .p) := by
 intro ti h
 obtain rfl := Option.some.inj h
 have hl : Nat.beq ((setav a f).cells.map EV.p).length 65 = true := len_beq hf
 have e : setSeg ([EV.p (eS nm)] ++ zeroOf 240 ++ []) 1 ((setcs a f).map EV.p) = [EV.p (eS nm)] ++ (setcs a f).map EV.p ++ [] := setSeg_mid ((setcs a f).map EV.p) [EV.p (eS nm)] [] (zeroOf 240) (by rw [setcs_len, hf]; rfl)
 show (bif Nat.beq ((setav a f).cells.map EV.p).length 65 && true then some (setSeg ([EV.p (eS nm)] ++ zeroOf 240 ++ []) 1 ((setcs a f).map EV.p)) else none) = _
 rw [hl, e]
 simp
theorem parts_var (v : Vr) (hf : v.2.2.length = 64) : partsP 66 0 [(0, .agg (v.cs.map .p))] = some [v.av] := by
 have h1 := toPs_p v.cs
 simp only [toPs] at h1
 have hl : v.cs.length = 66 := by simp [Vr.cs, setcs, hf]
 simp only [partsP, toP, h1, Option.map_some, AV.cells, hl, Nat.beq_refl, cond_true]
 rfl
theorem env04 (ps : List Param) (hp : ps.length ≤ 1000) (hs : ∀ q ∈ ps, 0 ≤ q.sort ∧ q.sort < 4) : ∃ l : List Vr, (∀ v ∈ l, v.2.Ok) ∧ l.length = ps.length ∧ l.map vty = ps.map (fun q => (q.name, 1)) ∧ AFun Tryz.prog 170 [.slice 2 (ps.map Param.av)] (.p (.slice 66 (l.map Vr.av))) := by
 suffices hh : ∃ y, (∃ l : List Vr, y = .p (.slice 66 (l.map Vr.av)) ∧ (∀ v ∈ l, v.2.Ok) ∧ l.length = ps.length ∧ l.map vty = ps.map (fun q => (q.name, 1))) ∧ AFun Tryz.prog 170 [.slice 2 (ps.map Param.av)] y by
  obtain ⟨y, ⟨r, rfl, h1, h2, h3⟩, hf⟩ := hh
  exact ⟨r, h1, h2, h3, hf⟩
 refine AFunE.intro hT Tryz.func170 rfl rfl (by simp) ⟨_, ps.map (fun q => (q.name, 1, List.replicate 64 true)), rfl, fun v hv => (by obtain ⟨_, _, rfl⟩ := List.mem_map.1 hv; exact ⟨⟨Int.le_refl 1, by show (1 : Int) ≤ 3; decide⟩, List.length_replicate⟩), List.length_map _, (by rw [List.map_map]; rfl)⟩ (AD.run hT hmix ?_)
 have hl : (ps.map Param.av).length = ps.length := List.length_map _
 refine AD.loopI (fun x : Nat × List Vr => x.1 ≤ ps.length ∧ x.2.length = x.1 ∧ (∀ v ∈ x.2, v.2.Ok) ∧ x.2.map vty = (ps.take x.1).map (fun q => (q.name, 1))) (fun x => ps.length - x.1) (fun x => [(0, .p (.slice 2 (ps.map Param.av))), (3, .own 66 (x.2.map Vr.av) 26), (4, eint .i64 x.1)]) (fun x => [(26, .tail x.2.length)]) (0, []) ⟨Nat.zero_le _, rfl, nofun, rfl⟩ .of fun ⟨i, l⟩ ⟨hi, hl1, hok, hvt⟩ => AD.run hT hmix ?_
 dsimp only at hi hl1 hok hvt ⊢
 have hl2 : (l.map Vr.av).length = l.length := List.length_map _
 intro _
 refine bgo_split (fun hb => ?_) (fun hb => ?_)
 · replace hb := of_decide_eq_true hb
   have hlt : i < ps.length := by omega
   have hq := hs _ (List.getElem_mem hlt)
   obtain ⟨g, hg, ho⟩ := one04 [ps[i].sort] (by simp) (by simpa using hq)
   refine igo_map i rfl hlt (igo_map i rfl hlt (.pure [ints [ps[i].sort]] _ rfl ho ?_))
   refine ogo_of (fill_var ps[i].name _ g hg _ rfl) ?_
   refine ogo_of (parts_var (ps[i].name, (([ps[i].sort].length : Int), g)) hg) ?_
   have e : (l ++ [(ps[i].name, (([ps[i].sort].length : Int), g))]).map Vr.av = l.map Vr.av ++ [Vr.av (ps[i].name, (([ps[i].sort].length : Int), g))] := by simp
   refine bgo_true rfl ⟨hl2.symm, ⟨by simp; omega, by simp; omega⟩, by kernel_rfl, ngo_in (by omega) (by omega) ⟨(i + 1, l ++ [(ps[i].name, (([ps[i].sort].length : Int), g))]), ⟨by dsimp only; omega, by simp; omega, fun v hv => ?_, (by dsimp only; rw [List.map_append, hvt, List.take_succ_eq_append_getElem hlt, List.map_append]; rfl)⟩, by dsimp only; omega, ?_⟩⟩
   · rcases List.mem_append.1 hv with hv | hv
     · exact hok v hv
     · obtain rfl := List.mem_singleton.1 hv
       exact ⟨⟨by simp, by simp⟩, hg⟩
   · dsimp only
     rw [e, show (l ++ [(ps[i].name, (([ps[i].sort].length : Int), g))]).length = (l.map Vr.av ++ [Vr.av (ps[i].name, (([ps[i].sort].length : Int), g))]).length by simp]
     exact .of
 · replace hb := of_decide_eq_false hb
   obtain rfl : i = ps.length := by omega
   rw [List.take_length] at hvt
   exact ⟨_, _, rfl, rfl, l, rfl, hok, by omega, hvt⟩
structure Vw where
 sp : Spc
 temp : List Bool
 calls : Int
 inside : Bool
def Vw.cs (v : Vw) : List AV := v.sp.cx ++ [.slice 1 (v.temp.map eB), eI v.calls, eB v.inside]
def Vw.av (v : Vw) : AV := .agg v.cs
def Dg (e a : Int) : AV := .agg [eI e, eI a]
def ExR (Q : Int → Prop) (y : EV) : Prop := ∃ a f e p, y = .tup [.p (setav a f), .p (Dg e p)] ∧ f.length = 64 ∧ (e = 0 → Q a)
theorem ExR.any (Q : Int → Prop) : ∃ y, ExR Q y := ⟨_, 1, List.replicate 64 false, 1, 1, rfl, List.length_replicate, fun h => absurd h (by decide)⟩
def envLook {α : Type} : List (ByteArray × α) → ByteArray → Option α
 | [], _ => none
 | x :: r, nm => match envLook r nm with
  | some b => some b
  | none => if sEq x.1 nm then some x.2 else none
theorem envLook_none {α : Type} : ∀ {l : List (ByteArray × α)} {nm : ByteArray}, (∀ x ∈ l, sEq x.1 nm = false) → envLook l nm = none
 | [], _, _ => rfl
 | x :: r, nm, h => by
  rw [envLook, envLook_none fun y hy => h y (List.mem_cons_of_mem _ hy), h x (List.mem_cons_self ..)]; rfl
theorem envLook_mid {α : Type} : ∀ {a : List (ByteArray × α)} {x : ByteArray × α} {b : List (ByteArray × α)} {nm : ByteArray}, (∀ y ∈ b, sEq y.1 nm = false) → sEq x.1 nm = true → envLook (a ++ x :: b) nm = some x.2
 | [], x, b, nm, h, hx => by rw [List.nil_append, envLook, envLook_none h, hx]; rfl
 | y :: a, x, b, nm, h, hx => by rw [List.cons_append, envLook, envLook_mid h hx]
theorem envLook_at {α : Type} {l : List (ByteArray × α)} {nm : ByteArray} {i : Nat} (hi : i < l.length) (h : ∀ y ∈ l.drop (i + 1), sEq y.1 nm = false) (hx : sEq l[i].1 nm = true) : envLook l nm = some l[i].2 := by
 have e : l = l.take i ++ l[i] :: l.drop (i + 1) := by rw [List.getElem_cons_drop, List.take_append_drop]
 have := envLook_mid (a := l.take i) h hx
 rwa [← e] at this
theorem drop_step {α : Type} {Q : α → Prop} {l : List α} {i : Nat} (hi : i < l.length) (h : ∀ y ∈ l.drop (i + 1), Q y) (hx : Q l[i]) : ∀ y ∈ l.drop i, Q y := fun y hy => by
 rw [← List.getElem_cons_drop hi] at hy
 rcases List.mem_cons.1 hy with rfl | hy
 · exact hx
 · exact h y hy
def NameTy (s : Spc) (env : List (ByteArray × Int)) (nm : ByteArray) (a : Int) : Prop := match envLook env nm with | some b => a = b | none => s.found nm = [a]
theorem res_two {env : Env} {h : AHp} {A : Int} {f : List Bool} {e p : Int} {Q : Int → Prop} (hf : f.length = 64) (hA : e = 0 → Q A) (h2 : lk env 6 = .loc 6 0) (h3 : hp h 6 = .box 240 (setSeg (zeroOf 240) 0 ((setcs A f).map .p))) (h4 : lk env 7 = .loc 7 0) (h5 : hp h 7 = .box 103 [.p (eI e), .p (eI p)]) : ∃ es xs, resAll T env h [.cell 6 240, .cell 7 103] = some es ∧ toPs es = some xs ∧ ExR Q (retEV xs) := by
 have ee : setSeg (zeroOf 240) 0 ((setcs A f).map EV.p) = (setcs A f).map .p := setSeg_all _ _ (by rw [setcs_len, hf]; rfl)
 rw [ee] at h3
 have r1 : resAll T env h [.cell 6 240] = some [.agg ((setcs A f).map .p)] := res_cell rfl h2 h3 rfl (by rw [setcs_len, hf])
 have r2 : resAll T env h [.cell 7 103] = some [.agg [.p (eI e), .p (eI p)]] := res_cell rfl h4 h5 rfl rfl
 have r3 : resAll T env h [.cell 6 240, .cell 7 103] = some [.agg ((setcs A f).map .p), .agg [.p (eI e), .p (eI p)]] := by
  simp only [resAll] at r1 r2 ⊢
  cases q1 : resOne T env h (.cell 6 240) with
  | none => rw [q1] at r1; simp at r1
  | some x =>
   cases q2 : resOne T env h (.cell 7 103) with
   | none => rw [q2] at r2; simp at r2
   | some y =>
    rw [q1] at r1; rw [q2] at r2
    simp only [Option.some.injEq, List.cons.injEq, and_true] at r1 r2
    rw [r1, r2]
 exact ⟨_, _, r3, toPs_two (setcs A f) [eI e, eI p], A, f, e, p, rfl, hf, hA⟩
theorem res_err {env : Env} {h : AHp} {e p : Int} {Q : Int → Prop} (he : e ≠ 0) (h2 : lk env 6 = .loc 6 0) (h3 : hp h 6 = .box 240 (setSeg (zeroOf 240) 0 (zeroOf 240))) (h4 : lk env 7 = .loc 7 0) (h5 : hp h 7 = .box 103 [.p (eI e), .p (eI p)]) : ∃ es xs, resAll T env h [.cell 6 240, .cell 7 103] = some es ∧ toPs es = some xs ∧ ExR Q (retEV xs) := by
 have ez : zeroOf 240 = (setcs 0 (List.replicate 64 false)).map .p := by
  have e : zeroOf 240 = .p (eI 0) :: List.replicate 64 (.p (eB false)) := rfl
  rw [e]; simp [setcs, List.map_replicate]
 refine res_two (A := 0) (f := List.replicate 64 false) List.length_replicate (fun h => absurd h he) h2 ?_ h4 h5
 rw [← ez]; exact h3
theorem vlen {v : Vr} (hf : v.2.2.length = 64) : Nat.ble 65 (List.drop 1 v.av.cells).length = true := by
 rw [show List.drop 1 v.av.cells = setcs v.2.1 v.2.2 from rfl]
 exact Nat.ble_eq_true_of_le (by simp [setcs, hf])
theorem take_var {v : Vr} (hf : v.2.2.length = 64) : List.take 65 (List.drop 1 v.av.cells) = setcs v.2.1 v.2.2 := by
 rw [show List.drop 1 v.av.cells = setcs v.2.1 v.2.2 from rfl]
 exact List.take_of_length_le (by simp [setcs, hf])
theorem name04 (v : Vw) (hs : v.sp.sorts.length ≤ 4) (hfl : v.sp.fields.length ≤ 1000) (hso : ∀ f ∈ v.sp.fields, SortsOk v.sp.sorts.length f.sorts) (hnm : ∀ x ∈ v.sp.sorts, x.name.size ≤ 1048576) (l : List Vr) (hl : ∀ x ∈ l, x.2.Ok) (n : Nd) : ∃ y, ExR (fun a => NameTy v.sp (l.map vty) n.name a ∧ 1 ≤ a ∧ a ≤ 3) y ∧ AFun Tryz.prog 216 [v.av, .slice 66 (l.map Vr.av), n.ex] y := by
 have hl1 : (l.map Vr.av).length = l.length := List.length_map _
 refine AFunE.intro hT Tryz.func216 rfl rfl (by simp) (ExR.any _) (AD.run hT hmix ?_)
 intro _
 refine ngo_in (by omega) (by omega) ?_
 rw [hl1]
 refine AD.loopI (fun i : Nat => i ≤ l.length ∧ ∀ x ∈ (l.map vty).drop i, sEq x.1 n.name = false) (fun i => i) (fun i => [(1, .p (.slice 66 (l.map Vr.av))), (3, .loc 3 0), (5, .loc 5 0), (6, .loc 6 0), (7, .loc 7 0), (8, .p (eI ((i : Int) - 1)))]) (fun _ => [(3, .box 245 (v.cs.map .p)), (5, .box 35 ([eI n.op, eS n.name, eI n.n, .slice 5 (n.kids.map Nd.av), eI n.at_].map .p)), (6, .box 240 (zeroOf 240)), (7, .box 103 [.p (eI 0), .p (eI 0)])]) l.length ⟨Nat.le_refl _, fun x hx => by rw [List.drop_eq_nil_of_le (by simp)] at hx; cases hx⟩ .of fun i ⟨hi, hno⟩ => AD.run hT hmix ?_
 refine bgo_split (fun hb => ?_) (fun hb => ?_)
 · replace hb := of_decide_eq_true hb
   have hlt : i - 1 < l.length := by omega
   have hok := hl _ (List.getElem_mem hlt)
   refine igo_map (i - 1) (by omega) hlt ?_
   refine ⟨by kernel_rfl, ?_⟩
   refine bgo_split (fun hc => ?_) (fun hc => ?_)
   · refine igo_map (i - 1) (by omega) hlt ?_
     refine bgo_true (vlen hok.2) ?_
     generalize hz : List.take _ (List.drop _ _) = z
     obtain rfl : z = setcs l[i - 1].2.1 l[i - 1].2.2 := hz.symm.trans (take_var hok.2)
     clear hz
     refine bgo_true (by rw [Bool.and_eq_true, Bool.and_eq_true]; exact ⟨len_beq hok.2, rfl, rfl⟩) ?_
     refine res_two hok.2 (fun _ => ⟨?_, hok.1⟩) rfl rfl rfl rfl
     have hq := envLook_at (l := l.map vty) (nm := n.name) (i := i - 1) (by simpa using hlt) (by rw [show i - 1 + 1 = i by omega]; exact hno) (by rw [List.getElem_map]; exact hc)
     unfold NameTy
     rw [hq, List.getElem_map]; rfl
   · refine ngo_in (by omega) (by omega) ⟨i - 1, ⟨by omega, drop_step (by rw [List.length_map]; exact hlt) (by rw [show i - 1 + 1 = i by omega]; exact hno) (by rw [List.getElem_map]; exact hc)⟩, by omega, ?_⟩
     rw [show ((i - 1 : Nat) : Int) = (i : Int) - 1 by omega]
     exact .of
 · replace hb := of_decide_eq_false hb
   obtain rfl : i = 0 := by omega
   rw [List.drop_zero] at hno
   have hq := envLook_none hno
   obtain ⟨y, ⟨a, f, k, rfl, hf, ha, hk, hla⟩, hn⟩ := named04 v.sp hs hfl hso hnm n.name
   refine .pure [v.sp.ex, eS n.name] _ rfl hn ?_
   refine bgo_true (by rw [Bool.and_eq_true, Bool.and_eq_true]; exact ⟨len_beq hf, rfl, rfl⟩) ?_
   generalize hy : setSeg _ _ ((setav a f).cells.map EV.p) = y
   obtain rfl : y = (setcs a f).map .p := hy.symm.trans (setSeg_all (zeroOf 240) ((setcs a f).map EV.p) (by rw [setcs_len, hf]; rfl))
   clear hy
   refine bgo_split (fun hb => ⟨by kernel_rfl, res_err (by decide) rfl rfl rfl rfl⟩) (fun hb => ?_)
   refine bgo_split (fun _ => ⟨by kernel_rfl, res_err (by decide) rfl rfl rfl rfl⟩) (fun hb1 => ?_)
   have hb : k ≠ 0 := by simpa using hb
   replace hb1 := of_decide_eq_false hb1
   have hfo : v.sp.found n.name = [a] := by
    cases hL : v.sp.found n.name with
    | nil => rw [hL] at hk; exact absurd hk hb
    | cons x r => cases r with
     | nil => rw [hL] at hla; rw [hla x rfl]
     | cons y r => rw [hL] at hk; simp at hk; omega
   refine bgo_true (Nat.ble_eq_true_of_le (by rw [setcs_len]; show 0 + 65 ≤ _; omega)) ?_
   generalize hz : List.take _ (List.drop _ ((setcs a f).map EV.p)) = z
   obtain rfl : z = (setcs a f).map .p := hz.symm.trans (take_setcs a f hf)
   clear hz
   refine bgo_true (by rw [Bool.and_eq_true, Bool.and_eq_true]; exact ⟨by rw [setcs_len, hf]; rfl, rfl, rfl⟩) ?_
   exact res_two hf (fun _ => ⟨(by unfold NameTy; rw [hq]; exact hfo), ha hb⟩) rfl rfl rfl rfl
end Go.Ab
namespace Go.Ab
open Go Go.Proofs
abbrev Up (l : List Int) : Prop := l.Pairwise (· < ·)
theorem cl_ex (S : Int → Prop) : ∃ l : List Int, Up l ∧ ∀ x, x ∈ l ↔ (0 ≤ x ∧ x < 2000) ∧ S x := by
 have : ∀ n : Nat, ∃ l : List Int, Up l ∧ ∀ x, x ∈ l ↔ (0 ≤ x ∧ x < n) ∧ S x := by
  intro n
  induction n with
  | zero => exact ⟨[], List.Pairwise.nil, fun x => ⟨fun h => (by cases h), fun h => (by omega)⟩⟩
  | succ n ih =>
   obtain ⟨l, h1, h2⟩ := ih
   by_cases hn : S (n : Int)
   · refine ⟨l ++ [(n : Int)], List.pairwise_append.2 ⟨h1, List.pairwise_singleton .., fun x hx y hy => ?_⟩, fun x => ?_⟩
     · obtain rfl := List.mem_singleton.1 hy
       exact ((h2 x).1 hx).1.2
     · rw [List.mem_append, h2, List.mem_singleton]
       constructor
       · rintro (⟨h, h'⟩ | rfl)
         · exact ⟨by omega, h'⟩
         · exact ⟨by omega, hn⟩
       · rintro ⟨h, h'⟩
         rcases Int.lt_or_le x n with h3 | h3
         · exact .inl ⟨by omega, h'⟩
         · exact .inr (by omega)
   · refine ⟨l, h1, fun x => (h2 x).trans ⟨fun ⟨h, h'⟩ => ⟨by omega, h'⟩, fun ⟨h, h'⟩ => ?_⟩⟩
     rcases Int.lt_or_le x n with h3 | h3
     · exact ⟨by omega, h'⟩
     · exact absurd (by rw [show (n : Int) = x by omega]; exact h') hn
 exact this 2000
noncomputable def cl (S : Int → Prop) : List Int := Classical.choose (cl_ex S)
theorem mem_cl {S : Int → Prop} {x : Int} : x ∈ cl S ↔ (0 ≤ x ∧ x < 2000) ∧ S x := (Classical.choose_spec (cl_ex S)).2 x
theorem cl_up (S : Int → Prop) : Up (cl S) := (Classical.choose_spec (cl_ex S)).1
theorem up_ext : ∀ {a b : List Int}, Up a → Up b → (∀ x, x ∈ a ↔ x ∈ b) → a = b
 | [], [], _, _, _ => rfl
 | [], y :: b, _, _, h => absurd ((h y).2 (List.mem_cons_self ..)) (by simp)
 | x :: a, [], _, _, h => absurd ((h x).1 (List.mem_cons_self ..)) (by simp)
 | x :: a, y :: b, ha, hb, h => by
  have ha' := List.pairwise_cons.1 ha
  have hb' := List.pairwise_cons.1 hb
  have hxy : x = y := by
   have h1 := (h x).1 (List.mem_cons_self ..)
   have h2 := (h y).2 (List.mem_cons_self ..)
   rcases List.mem_cons.1 h1 with e | h1
   · exact e
   · rcases List.mem_cons.1 h2 with e | h2
     · exact e.symm
     · have := ha'.1 y h2; have := hb'.1 x h1; omega
  subst hxy
  rw [up_ext ha'.2 hb'.2 fun z => ?_]
  constructor
  · intro hz
    rcases List.mem_cons.1 ((h z).1 (List.mem_cons_of_mem _ hz)) with rfl | hz'
    · exact absurd (ha'.1 z hz) (by omega)
    · exact hz'
  · intro hz
    rcases List.mem_cons.1 ((h z).2 (List.mem_cons_of_mem _ hz)) with rfl | hz'
    · exact absurd (hb'.1 z hz) (by omega)
    · exact hz'
theorem cl_eq {l : List Int} {S : Int → Prop} (hs : Up l) (hm : ∀ x, x ∈ l ↔ (0 ≤ x ∧ x < 2000) ∧ S x) : l = cl S := up_ext hs (cl_up S) fun x => (hm x).trans mem_cl.symm
noncomputable def rUnion (a b : Rl) : Rl := ⟨a.arity, cl fun x => x ∈ a.tuples ∨ x ∈ b.tuples⟩
noncomputable def rInter (a b : Rl) : Rl := ⟨a.arity, cl fun x => x ∈ a.tuples ∧ x ∈ b.tuples⟩
noncomputable def rDiff (a b : Rl) : Rl := ⟨a.arity, cl fun x => x ∈ a.tuples ∧ x ∉ b.tuples⟩
def pw (n k : Int) : Int := n ^ k.toNat
noncomputable def rProduct (n : Int) (a b : Rl) : Rl := ⟨a.arity + b.arity, cl fun x => ∃ u ∈ a.tuples, ∃ v ∈ b.tuples, x = u * pw n b.arity + v⟩
noncomputable def rJoin (n : Int) (a b : Rl) : Rl := ⟨a.arity + b.arity - 2, cl fun x => ∃ u ∈ a.tuples, ∃ v ∈ b.tuples, u % n = v / pw n (b.arity - 1) ∧ x = u / n * pw n (b.arity - 1) + v % pw n (b.arity - 1)⟩
noncomputable def rTrans (n : Int) (a : Rl) : Rl := ⟨2, cl fun x => ∃ t ∈ a.tuples, x = t % n * n + t / n⟩
inductive TC (R : Int → Int → Prop) : Int → Int → Prop
 | one {x y} (h : R x y) : TC R x y
 | more {x y z} (h : TC R x y) (k : R y z) : TC R x z
noncomputable def rClos (n : Int) (a : Rl) : Rl := ⟨2, cl fun t => t < n * n ∧ TC (fun x y => (0 ≤ x ∧ x < n) ∧ (0 ≤ y ∧ y < n) ∧ x * n + y ∈ a.tuples) (t / n) (t % n)⟩
noncomputable def rIden (n : Int) : Rl := ⟨2, cl fun x => ∃ y, 0 ≤ y ∧ y < n ∧ x = y * n + y⟩
noncomputable def rOver (n : Int) (a b : Rl) : Rl := ⟨a.arity, cl fun x => x ∈ b.tuples ∨ (x ∈ a.tuples ∧ ∀ v ∈ b.tuples, v / pw n (b.arity - 1) ≠ x / pw n (b.arity - 1))⟩
noncomputable def rUniv (n : Int) : Rl := ⟨1, cl fun x => 0 ≤ x ∧ x < n⟩
def Mdl.n (m : Mdl) : Int := sumI m.scope.atoms
def firstOf (sc : Scope) (i : Nat) : Int := sumI (sc.atoms.take i)
def atomsOf (sc : Scope) (i : Nat) : Int := sc.atoms[i]?.getD 0
noncomputable def sortRel (sc : Scope) (i : Nat) : Rl := ⟨1, cl fun x => firstOf sc i ≤ x ∧ x < firstOf sc i + atomsOf sc i⟩
def headRel (sc : Scope) (i : Nat) : Rl := ⟨1, [firstOf sc i]⟩
noncomputable def nextRel (sc : Scope) (i : Nat) : Rl := ⟨2, cl fun x => ∃ k, firstOf sc i ≤ k ∧ k + 1 < firstOf sc i + atomsOf sc i ∧ x = k * sumI sc.atoms + (k + 1)⟩
def fRels (m : Mdl) (st : Int) (nm : ByteArray) (f : Fld × Nat) : List Rl := if sEq f.1.name nm then [((m.states[st.toNat]?.getD [])[f.2]?).getD ⟨0, []⟩] else []
noncomputable def sRels (m : Mdl) (nm : ByteArray) (s : Srt × Nat) : List Rl := (if sEq s.1.name nm then [sortRel m.scope s.2] else []) ++ ((if s.1.ordered && sEq (s.1.name ++ sFirst) nm then [headRel m.scope s.2] else []) ++ (if s.1.ordered && sEq (s.1.name ++ sNext) nm then [nextRel m.scope s.2] else []))
noncomputable def foundR (s : Spc) (m : Mdl) (st : Int) (nm : ByteArray) : List Rl := s.fields.zipIdx.flatMap (fRels m st nm) ++ s.sorts.zipIdx.flatMap (sRels m nm)
noncomputable def nameVal (s : Spc) (m : Mdl) (st : Int) (env : List (ByteArray × Int)) (nm : ByteArray) : Rl := match envLook env nm with
 | some a => ⟨1, [a]⟩
 | none => (foundR s m st nm).head?.getD ⟨0, []⟩
def nextSt (m : Mdl) (st : Int) : Int := if 0 ≤ st ∧ st < m.states.length - 1 then st + 1 else if st = m.states.length - 1 then m.loop else 0
def pathGo (m : Mdl) : Nat → Int → List Int → List Int
 | 0, _, out => out
 | k + 1, st, out => if st ∈ out then out else pathGo m k (nextSt m st) (out ++ [st])
def pathOf (m : Mdl) (st : Int) : List Int := pathGo m (m.states.length + 2) st []
structure Val where
 r : Rl
 i : Int
 b : Bool
abbrev SemF := Int → List (ByteArray × Int) → Val
def val0 : Val := ⟨⟨0, []⟩, 0, false⟩
def Val.ofR (r : Rl) : Val := ⟨r, 0, false⟩
def Val.ofI (i : Int) : Val := ⟨⟨0, []⟩, i, false⟩
def Val.ofB (b : Bool) : Val := ⟨⟨0, []⟩, 0, b⟩
def semK (ks : List SemF) (i : Nat) : SemF := ks[i]?.getD fun _ _ => val0
def untilGo (f g : Int → Bool) : List Int → Bool → Bool → Bool
 | [], done, _ => done
 | s :: r, done, failed => untilGo f g r (done || (g s && !failed)) (failed || !f s)
noncomputable def evOp (s : Spc) (m : Mdl) (op : Int) (nm : ByteArray) (num : Int) (ks : List SemF) (st : Int) (env : List (ByteArray × Int)) : Val :=
 let r0 := (semK ks 0 st env).r
 let r1 := (semK ks 1 st env).r
 let i0 := (semK ks 0 st env).i
 let i1 := (semK ks 1 st env).i
 let b0 := (semK ks 0 st env).b
 let b1 := (semK ks 1 st env).b
 let q := fun a => (semK ks 1 st (env ++ [(nm, a)])).b
 if op = 1 then .ofR (nameVal s m st env nm)
 else if op = 2 then .ofR ⟨num, []⟩
 else if op = 3 then .ofR (rUniv m.n)
 else if op = 4 then .ofR (rIden m.n)
 else if op = 5 then .ofR (semK ks 0 (nextSt m st) env).r
 else if op = 6 then .ofR (rUnion r0 r1)
 else if op = 7 then .ofR (rInter r0 r1)
 else if op = 8 then .ofR (rDiff r0 r1)
 else if op = 9 then .ofR (rJoin m.n r0 r1)
 else if op = 10 then .ofR (rProduct m.n r0 r1)
 else if op = 11 then .ofR (rTrans m.n r0)
 else if op = 12 then .ofR (rClos m.n r0)
 else if op = 13 then .ofR (rUnion (rClos m.n r0) (rIden m.n))
 else if op = 14 then .ofR (rOver m.n r0 r1)
 else if op = 15 then .ofR ⟨1, r0.tuples.filter q⟩
 else if op = 20 then .ofI num
 else if op = 21 then .ofI r0.tuples.length
 else if op = 22 then .ofI (IntKind.i64.wrap (i0 + i1))
 else if op = 23 then .ofI (IntKind.i64.wrap (i0 - i1))
 else if op = 30 then .ofB true
 else if op = 31 then .ofB false
 else if op = 32 then .ofB (decide (∀ x ∈ r0.tuples, x ∈ r1.tuples))
 else if op = 33 then .ofB (decide (r0.tuples = r1.tuples))
 else if op = 34 then .ofB (decide (0 < r0.tuples.length))
 else if op = 35 then .ofB (decide (r0.tuples.length = 0))
 else if op = 36 then .ofB (decide (r0.tuples.length = 1))
 else if op = 37 then .ofB (decide (r0.tuples.length ≤ 1))
 else if op = 38 then .ofB (decide (i0 = i1))
 else if op = 39 then .ofB (decide (i0 < i1))
 else if op = 40 then .ofB !b0
 else if op = 41 then .ofB (b0 && b1)
 else if op = 42 then .ofB (b0 || b1)
 else if op = 43 then .ofB (!b0 || b1)
 else if op = 44 then .ofB (b0 == b1)
 else if op = 45 then .ofB (r0.tuples.all q)
 else if op = 46 then .ofB (r0.tuples.any q)
 else if op = 48 then .ofB ((pathOf m st).all fun t => (semK ks 0 t env).b)
 else if op = 49 then .ofB ((pathOf m st).any fun t => (semK ks 0 t env).b)
 else if op = 50 then .ofB (semK ks 0 (nextSt m st) env).b
 else if op = 51 then .ofB (untilGo (fun t => (semK ks 0 t env).b) (fun t => (semK ks 1 t env).b) (pathOf m st) false false)
 else val0
mutual
noncomputable def ev (s : Spc) (m : Mdl) : Nd → SemF
 | .mk op name n kids _ => evOp s m op name n (evs s m kids)
noncomputable def evs (s : Spc) (m : Mdl) : List Nd → List SemF
 | [] => []
 | x :: r => ev s m x :: evs s m r
end
theorem evs_map (s : Spc) (m : Mdl) : ∀ l, evs s m l = l.map (ev s m)
 | [] => by simp [evs]
 | x :: r => by rw [evs, evs_map s m r]; rfl
theorem ev_eq (s : Spc) (m : Mdl) (n : Nd) : ev s m n = evOp s m n.op n.name n.n (n.kids.map (ev s m)) := by
 cases n with
 | mk op name n kids a => rw [ev, evs_map]; rfl
structure Prm (n : Int) (π : Int → Int) : Prop where
 pos : 0 < n
 lt : ∀ x, 0 ≤ x → x < n → 0 ≤ π x ∧ π x < n
 inj : ∀ x y, 0 ≤ x → x < n → 0 ≤ y → y < n → π x = π y → x = y
 sur : ∀ y, 0 ≤ y → y < n → ∃ x, (0 ≤ x ∧ x < n) ∧ π x = y
def pm (n : Int) (π : Int → Int) : Nat → Int → Int
 | 0, _ => 0
 | k + 1, t => pm n π k (t / n) * n + π (t % n)
theorem ipow_pos {n : Int} (h : 0 < n) (k : Nat) : 0 < n ^ k := Int.pow_pos h
theorem div_lt_pow {n t : Int} (h : 0 < n) {k : Nat} (h0 : 0 ≤ t) (h1 : t < n ^ (k + 1)) : 0 ≤ t / n ∧ t / n < n ^ k := by
 refine ⟨Int.ediv_nonneg h0 (Int.le_of_lt h), Int.ediv_lt_of_lt_mul h ?_⟩
 rw [Int.pow_succ] at h1; exact h1
theorem mod_rng {n : Int} (h : 0 < n) (t : Int) : 0 ≤ t % n ∧ t % n < n := ⟨Int.emod_nonneg _ (by omega), Int.emod_lt_of_pos _ h⟩
theorem comb_div {n a b : Int} (h0 : 0 ≤ b) (h1 : b < n) : (a * n + b) / n = a := by
 rw [Int.add_comm, Int.add_mul_ediv_right _ _ (by omega), Int.ediv_eq_zero_of_lt h0 h1, Int.zero_add]
theorem comb_mod {n a b : Int} (h0 : 0 ≤ b) (h1 : b < n) : (a * n + b) % n = b := by
 rw [Int.add_comm, Int.add_mul_emod_self_right, Int.emod_eq_of_lt h0 h1]
theorem div_comb (t n : Int) : t / n * n + t % n = t := by rw [Int.mul_comm]; exact Int.mul_ediv_add_emod t n
theorem comb_lt {n a b N : Int} (hn : 0 < n) (ha : a < N) (h1 : b < n) : a * n + b < N * n := by
 have : (a + 1) * n ≤ N * n := Int.mul_le_mul_of_nonneg_right (by omega) (by omega)
 rw [Int.add_mul, Int.one_mul] at this
 omega
theorem comb_nn {n a b : Int} (hn : 0 < n) (ha : 0 ≤ a) (h0 : 0 ≤ b) : 0 ≤ a * n + b := by
 have := Int.mul_nonneg ha (Int.le_of_lt hn); omega
section
variable {n : Int} {π : Int → Int} (hp : Prm n π)
include hp
theorem pm_rng : ∀ (k : Nat) (t : Int), 0 ≤ t → t < n ^ k → 0 ≤ pm n π k t ∧ pm n π k t < n ^ k
 | 0, t, _, _ => by rw [pm, Int.pow_zero]; exact ⟨Int.le_refl _, by omega⟩
 | k + 1, t, h0, h1 => by
  obtain ⟨a, b⟩ := div_lt_pow hp.pos h0 h1
  obtain ⟨c, d⟩ := pm_rng k (t / n) a b
  obtain ⟨e, f⟩ := mod_rng hp.pos t
  obtain ⟨g, h⟩ := hp.lt _ e f
  rw [pm, Int.pow_succ]
  exact ⟨comb_nn hp.pos c g, comb_lt hp.pos d h⟩
theorem pm_inj : ∀ (k : Nat) (t u : Int), 0 ≤ t → t < n ^ k → 0 ≤ u → u < n ^ k → pm n π k t = pm n π k u → t = u
 | 0, t, u, h0, h1, g0, g1, _ => by rw [Int.pow_zero] at h1 g1; omega
 | k + 1, t, u, h0, h1, g0, g1, h => by
  obtain ⟨a, b⟩ := div_lt_pow hp.pos h0 h1
  obtain ⟨a', b'⟩ := div_lt_pow hp.pos g0 g1
  obtain ⟨e, f⟩ := mod_rng hp.pos t
  obtain ⟨e', f'⟩ := mod_rng hp.pos u
  obtain ⟨r0, r1⟩ := hp.lt _ e f
  obtain ⟨q0, q1⟩ := hp.lt _ e' f'
  rw [pm, pm] at h
  have h2 := congrArg (· / n) h
  have h3 := congrArg (· % n) h
  simp only [comb_div r0 r1, comb_div q0 q1] at h2
  simp only [comb_mod r0 r1, comb_mod q0 q1] at h3
  have h4 := pm_inj k _ _ a b a' b' h2
  have h5 := hp.inj _ _ e f e' f' h3
  rw [← div_comb t n, ← div_comb u n, h4, h5]
theorem pm_sur : ∀ (k : Nat) (u : Int), 0 ≤ u → u < n ^ k → ∃ t, (0 ≤ t ∧ t < n ^ k) ∧ pm n π k t = u
 | 0, u, h0, h1 => ⟨0, ⟨Int.le_refl _, by rw [Int.pow_zero]; omega⟩, by rw [Int.pow_zero] at h1; rw [pm]; omega⟩
 | k + 1, u, h0, h1 => by
  obtain ⟨a, b⟩ := div_lt_pow hp.pos h0 h1
  obtain ⟨e, f⟩ := mod_rng hp.pos u
  obtain ⟨t, ⟨t0, t1⟩, ht⟩ := pm_sur k _ a b
  obtain ⟨x, ⟨x0, x1⟩, hx⟩ := hp.sur _ e f
  refine ⟨t * n + x, ⟨comb_nn hp.pos t0 x0, by rw [Int.pow_succ]; exact comb_lt hp.pos t1 x1⟩, ?_⟩
  rw [pm, comb_div x0 x1, comb_mod x0 x1, ht, hx, div_comb]
theorem pm_comb (j : Nat) : ∀ (k : Nat) (u v : Int), 0 ≤ v → v < n ^ k → pm n π (j + k) (u * n ^ k + v) = pm n π j u * n ^ k + pm n π k v
 | 0, u, v, h0, h1 => by
  rw [Int.pow_zero] at h1
  obtain rfl : v = 0 := by omega
  simp [pm]
 | k + 1, u, v, h0, h1 => by
  obtain ⟨a, b⟩ := div_lt_pow hp.pos h0 h1
  have e1 : (u * n ^ (k + 1) + v) / n = u * n ^ k + v / n := by
   rw [Int.pow_succ, ← Int.mul_assoc, Int.add_comm, Int.add_mul_ediv_right _ _ (by have := hp.pos; omega), Int.add_comm]
  have e2 : (u * n ^ (k + 1) + v) % n = v % n := by
   rw [Int.pow_succ, ← Int.mul_assoc, Int.add_comm, Int.add_mul_emod_self_right]
  rw [show j + (k + 1) = (j + k) + 1 from rfl, pm, e1, e2, pm_comb j k u _ a b, pm, Int.pow_succ, Int.add_mul, ← Int.mul_assoc, Int.add_assoc]
theorem pm_one (t : Int) (h0 : 0 ≤ t) (h1 : t < n) : pm n π 1 t = π t := by
 have _ := hp.pos
 rw [pm, pm, Int.emod_eq_of_lt h0 h1]; omega
end
structure Rl.Ok (n : Int) (r : Rl) : Prop where
 a : 1 ≤ r.arity ∧ r.arity ≤ 3
 up : Up r.tuples
 rng : ∀ t ∈ r.tuples, 0 ≤ t ∧ t < n ^ r.arity.toNat
noncomputable def imgR (n : Int) (π : Int → Int) (r : Rl) : Rl := ⟨r.arity, cl fun x => ∃ t ∈ r.tuples, x = pm n π r.arity.toNat t⟩
theorem pow_le_2000 {n : Int} (h0 : 0 < n) (h : n ≤ 12) {k : Nat} (hk : k ≤ 3) : n ^ k ≤ 2000 := by
 have hk : k = 0 ∨ k = 1 ∨ k = 2 ∨ k = 3 := by omega
 have hn : n = 1 ∨ n = 2 ∨ n = 3 ∨ n = 4 ∨ n = 5 ∨ n = 6 ∨ n = 7 ∨ n = 8 ∨ n = 9 ∨ n = 10 ∨ n = 11 ∨ n = 12 := by omega
 rcases hk with rfl | rfl | rfl | rfl <;> rcases hn with rfl | rfl | rfl | rfl | rfl | rfl | rfl | rfl | rfl | rfl | rfl | rfl <;> decide
section
variable {n : Int} {π : Int → Int} (hp : Prm n π) (hn : n ≤ 12)
include hp hn
theorem mem_img {r : Rl} (hr : r.Ok n) {x : Int} : x ∈ (imgR n π r).tuples ↔ ∃ t ∈ r.tuples, x = pm n π r.arity.toNat t := by
 unfold imgR
 rw [mem_cl]
 refine ⟨fun h => h.2, fun h => ⟨?_, h⟩⟩
 obtain ⟨t, ht, rfl⟩ := h
 obtain ⟨a, b⟩ := hr.rng t ht
 obtain ⟨c, d⟩ := pm_rng hp _ t a b
 have := pow_le_2000 hp.pos hn (k := r.arity.toNat) (by have := hr.a; omega)
 omega
theorem mem_img_pm {r : Rl} (hr : r.Ok n) {t : Int} (h0 : 0 ≤ t) (h1 : t < n ^ r.arity.toNat) : pm n π r.arity.toNat t ∈ (imgR n π r).tuples ↔ t ∈ r.tuples := by
 rw [mem_img hp hn hr]
 constructor
 · rintro ⟨u, hu, e⟩
   obtain ⟨a, b⟩ := hr.rng u hu
   rw [pm_inj hp _ _ _ h0 h1 a b e]; exact hu
 · exact fun h => ⟨t, h, rfl⟩
theorem img_ok {r : Rl} (hr : r.Ok n) : (imgR n π r).Ok n := by
 refine ⟨hr.a, cl_up _, fun x hx => ?_⟩
 obtain ⟨t, ht, rfl⟩ := (mem_img hp hn hr).1 hx
 obtain ⟨a, b⟩ := hr.rng t ht
 exact pm_rng hp _ t a b
theorem img_of {r r' : Rl} (hr : r.Ok n) (hr' : r'.Ok n) (ha : r'.arity = r.arity) (h : ∀ t, 0 ≤ t → t < n ^ r.arity.toNat → (pm n π r.arity.toNat t ∈ r'.tuples ↔ t ∈ r.tuples)) : r' = imgR n π r := by
 have : r'.tuples = (imgR n π r).tuples := up_ext hr'.up (cl_up _) fun x => by
  rw [mem_img hp hn hr]
  constructor
  · intro hx
    obtain ⟨a, b⟩ := hr'.rng x hx
    rw [ha] at b
    obtain ⟨t, ⟨t0, t1⟩, rfl⟩ := pm_sur hp _ x a b
    exact ⟨t, (h t t0 t1).1 hx, rfl⟩
  · rintro ⟨t, ht, rfl⟩
    obtain ⟨a, b⟩ := hr.rng t ht
    exact (h t a b).2 ht
 cases r'; cases r
 simp only [imgR] at this ha ⊢
 rw [this, ha]
end
theorem pw_eq (n : Int) {k : Int} : pw n k = n ^ k.toNat := rfl
section
theorem mem_cl_rng {n : Int} (hn0 : 0 < n) (hn : n ≤ 12) {S : Int → Prop} {k : Nat} (hk : k ≤ 3) {t : Int} (h0 : 0 ≤ t) (h1 : t < n ^ k) : t ∈ cl S ↔ S t := by
 rw [mem_cl]
 have := pow_le_2000 hn0 hn hk
 exact ⟨fun h => h.2, fun h => ⟨⟨h0, by omega⟩, h⟩⟩
theorem rUnion_ok {n : Int} (hn0 : 0 < n) (hn : n ≤ 12) {a b : Rl} (ha : a.Ok n) (hb : b.Ok n) (e : a.arity = b.arity) : (rUnion a b).Ok n := ⟨ha.a, cl_up _, fun t ht => by
 rcases (mem_cl.1 ht).2 with h | h
 · exact ha.rng t h
 · have := hb.rng t h; rw [← e] at this; exact this⟩
theorem rInter_ok {n : Int} (hn0 : 0 < n) (hn : n ≤ 12) {a b : Rl} (ha : a.Ok n) : (rInter a b).Ok n := ⟨ha.a, cl_up _, fun t ht => ha.rng t (mem_cl.1 ht).2.1⟩
theorem rDiff_ok {n : Int} (hn0 : 0 < n) (hn : n ≤ 12) {a b : Rl} (ha : a.Ok n) : (rDiff a b).Ok n := ⟨ha.a, cl_up _, fun t ht => ha.rng t (mem_cl.1 ht).2.1⟩
theorem rOver_ok {n : Int} (hn0 : 0 < n) (hn : n ≤ 12) {a b : Rl} (ha : a.Ok n) (hb : b.Ok n) (e : a.arity = b.arity) : (rOver n a b).Ok n := ⟨ha.a, cl_up _, fun t ht => by
 rcases (mem_cl.1 ht).2 with h | h
 · have := hb.rng t h; rw [← e] at this; exact this
 · exact ha.rng t h.1⟩
theorem rUniv_ok {n : Int} (hn0 : 0 < n) (hn : n ≤ 12) : (rUniv n).Ok n := ⟨⟨by show (1 : Int) ≤ 1; omega, by show (1 : Int) ≤ 3; omega⟩, cl_up _, fun t ht => by
 have := (mem_cl.1 ht).2
 show 0 ≤ t ∧ t < n ^ 1
 rw [Int.pow_succ, Int.pow_zero]; omega⟩
theorem sq {n : Int} (hn0 : 0 < n) (hn : n ≤ 12) (n : Int) : n ^ (2 : Int).toNat = n * n := by show n ^ 2 = n * n; rw [Int.pow_succ, Int.pow_succ, Int.pow_zero, Int.one_mul]
theorem rIden_ok {n : Int} (hn0 : 0 < n) (hn : n ≤ 12) : (rIden n).Ok n := ⟨⟨by show (1 : Int) ≤ 2; omega, by show (2 : Int) ≤ 3; omega⟩, cl_up _, fun t ht => by
 obtain ⟨y, h0, h1, rfl⟩ := (mem_cl.1 ht).2
 show 0 ≤ _ ∧ _ < n ^ (2 : Int).toNat
 rw [sq hn0 hn]
 exact ⟨comb_nn hn0 h0 h0, comb_lt hn0 h1 h1⟩⟩
theorem rTrans_ok {n : Int} (hn0 : 0 < n) (hn : n ≤ 12) {a : Rl} (ha : a.Ok n) (h2 : a.arity = 2) : (rTrans n a).Ok n := ⟨⟨by show (1 : Int) ≤ 2; omega, by show (2 : Int) ≤ 3; omega⟩, cl_up _, fun t ht => by
 obtain ⟨y, h0, rfl⟩ := (mem_cl.1 ht).2
 have hr := ha.rng y h0
 rw [h2, sq hn0 hn] at hr
 show 0 ≤ _ ∧ _ < n ^ (2 : Int).toNat
 rw [sq hn0 hn]
 obtain ⟨a0, a1⟩ := mod_rng hn0 y
 have b0 := Int.ediv_nonneg hr.1 (Int.le_of_lt hn0)
 have b1 := Int.ediv_lt_of_lt_mul hn0 hr.2
 exact ⟨comb_nn hn0 a0 b0, comb_lt hn0 a1 b1⟩⟩
theorem rClos_ok {n : Int} (hn0 : 0 < n) (hn : n ≤ 12) {a : Rl} : (rClos n a).Ok n := ⟨⟨by show (1 : Int) ≤ 2; omega, by show (2 : Int) ≤ 3; omega⟩, cl_up _, fun t ht => by
 obtain ⟨h1, h2⟩ := mem_cl.1 ht
 show 0 ≤ _ ∧ _ < n ^ (2 : Int).toNat
 rw [sq hn0 hn]
 exact ⟨h1.1, h2.1⟩⟩
theorem rProduct_ok {n : Int} (hn0 : 0 < n) (hn : n ≤ 12) {a b : Rl} (ha : a.Ok n) (hb : b.Ok n) (h3 : a.arity + b.arity ≤ 3) : (rProduct n a b).Ok n := by
 have h1 := ha.a
 have h2 := hb.a
 refine ⟨⟨by show 1 ≤ a.arity + b.arity; omega, h3⟩, cl_up _, fun t ht => ?_⟩
 obtain ⟨u, hu, v, hv, rfl⟩ := (mem_cl.1 ht).2
 obtain ⟨u0, u1⟩ := ha.rng u hu
 obtain ⟨v0, v1⟩ := hb.rng v hv
 show 0 ≤ _ ∧ _ < n ^ (a.arity + b.arity).toNat
 rw [show (a.arity + b.arity).toNat = a.arity.toNat + b.arity.toNat by omega, Int.pow_add, pw_eq]
 have hp := ipow_pos hn0 b.arity.toNat
 exact ⟨comb_nn hp u0 v0, comb_lt hp u1 v1⟩
theorem rProduct_mem {n : Int} (hn0 : 0 < n) (hn : n ≤ 12) {a b : Rl} (ha : a.Ok n) (hb : b.Ok n) (h3 : a.arity + b.arity ≤ 3) {t : Int} (h0 : 0 ≤ t) (h1 : t < n ^ (rProduct n a b).arity.toNat) : t ∈ (rProduct n a b).tuples ↔ t / n ^ b.arity.toNat ∈ a.tuples ∧ t % n ^ b.arity.toNat ∈ b.tuples := by
 have g1 := ha.a
 have g2 := hb.a
 refine (mem_cl_rng hn0 hn (k := (rProduct n a b).arity.toNat) (by show (a.arity + b.arity).toNat ≤ 3; omega) h0 h1).trans ?_
 have hp := ipow_pos hn0 b.arity.toNat
 constructor
 · rintro ⟨u, hu, v, hv, rfl⟩
   obtain ⟨v0, v1⟩ := hb.rng v hv
   rw [pw_eq, comb_div v0 v1, comb_mod v0 v1]; exact ⟨hu, hv⟩
 · rintro ⟨hu, hv⟩
   exact ⟨_, hu, _, hv, (div_comb _ _).symm⟩
theorem rJoin_ok {n : Int} (hn0 : 0 < n) (hn : n ≤ 12) {a b : Rl} (ha : a.Ok n) (hb : b.Ok n) (h1 : 1 ≤ a.arity + b.arity - 2) (h3 : a.arity + b.arity - 2 ≤ 3) : (rJoin n a b).Ok n := by
 have g1 := ha.a
 have g2 := hb.a
 refine ⟨⟨h1, h3⟩, cl_up _, fun t ht => ?_⟩
 obtain ⟨u, hu, v, hv, _, rfl⟩ := (mem_cl.1 ht).2
 obtain ⟨u0, u1⟩ := ha.rng u hu
 obtain ⟨v0, v1⟩ := hb.rng v hv
 show 0 ≤ _ ∧ _ < n ^ (a.arity + b.arity - 2).toNat
 rw [show (a.arity + b.arity - 2).toNat = (a.arity.toNat - 1) + (b.arity - 1).toNat by omega, Int.pow_add, pw_eq]
 have hp := ipow_pos hn0 (b.arity - 1).toNat
 obtain ⟨m0, m1⟩ := mod_rng hp v
 rw [show a.arity.toNat = (a.arity.toNat - 1) + 1 by omega] at u1
 obtain ⟨d0, d1⟩ := div_lt_pow hn0 u0 u1
 exact ⟨comb_nn hp d0 m0, comb_lt hp d1 m1⟩
theorem rJoin_mem {n : Int} (hn0 : 0 < n) (hn : n ≤ 12) {a b : Rl} (ha : a.Ok n) (hb : b.Ok n) (h1 : 1 ≤ a.arity + b.arity - 2) (h3 : a.arity + b.arity - 2 ≤ 3) {t : Int} (t0 : 0 ≤ t) (t1 : t < n ^ (rJoin n a b).arity.toNat) :
 t ∈ (rJoin n a b).tuples ↔ ∃ c, (0 ≤ c ∧ c < n) ∧ t / n ^ (b.arity - 1).toNat * n + c ∈ a.tuples ∧ c * n ^ (b.arity - 1).toNat + t % n ^ (b.arity - 1).toNat ∈ b.tuples := by
 refine (mem_cl_rng hn0 hn (k := (rJoin n a b).arity.toNat) (by show (a.arity + b.arity - 2).toNat ≤ 3; omega) t0 t1).trans ?_
 have hp := ipow_pos hn0 (b.arity - 1).toNat
 constructor
 · rintro ⟨u, hu, v, hv, e, rfl⟩
   rw [pw_eq] at e ⊢
   obtain ⟨m0, m1⟩ := mod_rng hp v
   refine ⟨u % n, mod_rng hn0 u, ?_, ?_⟩
   · rw [comb_div m0 m1, div_comb]; exact hu
   · rw [comb_mod m0 m1, e, div_comb]; exact hv
 · rintro ⟨c, ⟨c0, c1⟩, hu, hv⟩
   obtain ⟨m0, m1⟩ := mod_rng hp t
   refine ⟨_, hu, _, hv, ?_, ?_⟩
   · rw [pw_eq, comb_mod c0 c1, comb_div m0 m1]
   · rw [pw_eq, comb_div c0 c1, comb_mod m0 m1, div_comb]
theorem rTrans_mem {n : Int} (hn0 : 0 < n) (hn : n ≤ 12) {a : Rl} (ha : a.Ok n) (h2 : a.arity = 2) {t : Int} (t0 : 0 ≤ t) (t1 : t < n * n) : t ∈ (rTrans n a).tuples ↔ t % n * n + t / n ∈ a.tuples := by
 refine (mem_cl_rng hn0 hn (k := 2) (by omega) t0 (by rw [← sq hn0 hn] at t1; exact t1)).trans ?_
 have key : ∀ u, 0 ≤ u → u < n * n → (u % n * n + u / n) % n * n + (u % n * n + u / n) / n = u := fun u u0 u1 => by
  have b0 := Int.ediv_nonneg u0 (Int.le_of_lt hn0)
  have b1 := Int.ediv_lt_of_lt_mul hn0 u1
  rw [comb_mod b0 b1, comb_div b0 b1, div_comb]
 constructor
 · rintro ⟨u, hu, rfl⟩
   have hr := ha.rng u hu
   rw [h2, sq hn0 hn] at hr
   rw [key u hr.1 hr.2]; exact hu
 · exact fun h => ⟨_, h, (key t t0 t1).symm⟩
end
section
theorem rUnion_img {n : Int} {π : Int → Int} (hp : Prm n π) (hn : n ≤ 12) {a b : Rl} (ha : a.Ok n) (hb : b.Ok n) (e : a.arity = b.arity) : rUnion (imgR n π a) (imgR n π b) = imgR n π (rUnion a b) := by
 refine img_of hp hn (rUnion_ok hp.pos hn ha hb e) (rUnion_ok hp.pos hn (img_ok hp hn ha) (img_ok hp hn hb) e) rfl fun t t0 t1 => ?_
 have hk : a.arity.toNat ≤ 3 := by have := ha.a; omega
 have t1 : t < n ^ a.arity.toNat := t1
 obtain ⟨c, d⟩ := pm_rng hp _ t t0 t1
 refine (mem_cl_rng hp.pos hn hk c d).trans ((or_congr (mem_img_pm hp hn ha t0 t1) ?_).trans (show t ∈ (rUnion a b).tuples ↔ _ from mem_cl_rng hp.pos hn hk t0 t1).symm)
 have := mem_img_pm hp hn hb t0 (by rw [← e]; exact t1)
 rw [← e] at this; exact this
theorem rInter_img {n : Int} {π : Int → Int} (hp : Prm n π) (hn : n ≤ 12) {a b : Rl} (ha : a.Ok n) (hb : b.Ok n) (e : a.arity = b.arity) : rInter (imgR n π a) (imgR n π b) = imgR n π (rInter a b) := by
 refine img_of hp hn (rInter_ok hp.pos hn ha) (rInter_ok hp.pos hn (img_ok hp hn ha)) rfl fun t t0 t1 => ?_
 have hk : a.arity.toNat ≤ 3 := by have := ha.a; omega
 have t1 : t < n ^ a.arity.toNat := t1
 obtain ⟨c, d⟩ := pm_rng hp _ t t0 t1
 refine (mem_cl_rng hp.pos hn hk c d).trans ((and_congr (mem_img_pm hp hn ha t0 t1) ?_).trans (show t ∈ (rInter a b).tuples ↔ _ from mem_cl_rng hp.pos hn hk t0 t1).symm)
 have := mem_img_pm hp hn hb t0 (by rw [← e]; exact t1)
 rw [← e] at this; exact this
theorem rDiff_img {n : Int} {π : Int → Int} (hp : Prm n π) (hn : n ≤ 12) {a b : Rl} (ha : a.Ok n) (hb : b.Ok n) (e : a.arity = b.arity) : rDiff (imgR n π a) (imgR n π b) = imgR n π (rDiff a b) := by
 refine img_of hp hn (rDiff_ok hp.pos hn ha) (rDiff_ok hp.pos hn (img_ok hp hn ha)) rfl fun t t0 t1 => ?_
 have hk : a.arity.toNat ≤ 3 := by have := ha.a; omega
 have t1 : t < n ^ a.arity.toNat := t1
 obtain ⟨c, d⟩ := pm_rng hp _ t t0 t1
 refine (mem_cl_rng hp.pos hn hk c d).trans ((and_congr (mem_img_pm hp hn ha t0 t1) (not_congr ?_)).trans (show t ∈ (rDiff a b).tuples ↔ _ from mem_cl_rng hp.pos hn hk t0 t1).symm)
 have := mem_img_pm hp hn hb t0 (by rw [← e]; exact t1)
 rw [← e] at this; exact this
theorem pm_split {n : Int} {π : Int → Int} (hp : Prm n π) (hn : n ≤ 12) (j k : Nat) {t : Int} (t0 : 0 ≤ t) : pm n π (j + k) t = pm n π j (t / n ^ k) * n ^ k + pm n π k (t % n ^ k) := by
 obtain ⟨m0, m1⟩ := mod_rng (ipow_pos hp.pos k) t
 rw [← pm_comb hp j k _ _ m0 m1, div_comb]
theorem rProduct_img {n : Int} {π : Int → Int} (hp : Prm n π) (hn : n ≤ 12) {a b : Rl} (ha : a.Ok n) (hb : b.Ok n) (h3 : a.arity + b.arity ≤ 3) : rProduct n (imgR n π a) (imgR n π b) = imgR n π (rProduct n a b) := by
 have g1 := ha.a
 have g2 := hb.a
 have ia := img_ok hp hn ha
 have ib := img_ok hp hn hb
 refine img_of hp hn (rProduct_ok hp.pos hn ha hb h3) (rProduct_ok hp.pos hn ia ib h3) rfl fun t t0 t1 => ?_
 have hk : (rProduct n a b).arity.toNat = a.arity.toNat + b.arity.toNat := by show (a.arity + b.arity).toNat = _; omega
 obtain ⟨c, d⟩ := pm_rng hp _ t t0 t1
 rw [rProduct_mem hp.pos hn ha hb h3 t0 t1, rProduct_mem hp.pos hn ia ib h3 c d, hk, pm_split hp hn _ _ t0]
 show (_ / n ^ b.arity.toNat ∈ _ ∧ _ % n ^ b.arity.toNat ∈ _) ↔ _
 have hpw := ipow_pos hp.pos b.arity.toNat
 obtain ⟨m0, m1⟩ := mod_rng hpw t
 obtain ⟨r0, r1⟩ := pm_rng hp _ _ m0 m1
 rw [comb_div r0 r1, comb_mod r0 r1]
 have d0 := Int.ediv_nonneg t0 (Int.le_of_lt hpw)
 have d1 : t / n ^ b.arity.toNat < n ^ a.arity.toNat := Int.ediv_lt_of_lt_mul hpw (by rw [hk, Int.pow_add] at t1; exact t1)
 exact and_congr (mem_img_pm hp hn ha d0 d1) (mem_img_pm hp hn hb m0 m1)
theorem rJoin_img {n : Int} {π : Int → Int} (hp : Prm n π) (hn : n ≤ 12) {a b : Rl} (ha : a.Ok n) (hb : b.Ok n) (h1 : 1 ≤ a.arity + b.arity - 2) (h3 : a.arity + b.arity - 2 ≤ 3) : rJoin n (imgR n π a) (imgR n π b) = imgR n π (rJoin n a b) := by
 have g1 := ha.a
 have g2 := hb.a
 have ia := img_ok hp hn ha
 have ib := img_ok hp hn hb
 refine img_of hp hn (rJoin_ok hp.pos hn ha hb h1 h3) (rJoin_ok hp.pos hn ia ib h1 h3) rfl fun t t0 t1 => ?_
 have hk : (rJoin n a b).arity.toNat = (a.arity.toNat - 1) + (b.arity - 1).toNat := by show (a.arity + b.arity - 2).toNat = _; omega
 obtain ⟨c, d⟩ := pm_rng hp _ t t0 t1
 rw [rJoin_mem hp.pos hn ha hb h1 h3 t0 t1, rJoin_mem hp.pos hn ia ib h1 h3 c d, hk, pm_split hp hn _ _ t0]
 show (∃ c, _ ∧ _ / n ^ (b.arity - 1).toNat * n + c ∈ _ ∧ c * n ^ (b.arity - 1).toNat + _ % n ^ (b.arity - 1).toNat ∈ _) ↔ _
 have hpw := ipow_pos hp.pos (b.arity - 1).toNat
 obtain ⟨m0, m1⟩ := mod_rng hpw t
 obtain ⟨r0, r1⟩ := pm_rng hp _ _ m0 m1
 rw [comb_div r0 r1, comb_mod r0 r1]
 have d0 := Int.ediv_nonneg t0 (Int.le_of_lt hpw)
 have d1 : t / n ^ (b.arity - 1).toNat < n ^ (a.arity.toNat - 1) := Int.ediv_lt_of_lt_mul hpw (by rw [hk, Int.pow_add] at t1; exact t1)
 have eA : ∀ c, 0 ≤ c → c < n → pm n π (a.arity.toNat - 1) (t / n ^ (b.arity - 1).toNat) * n + π c = pm n π a.arity.toNat (t / n ^ (b.arity - 1).toNat * n + c) := fun c c0 c1 => by
  have := pm_comb hp (a.arity.toNat - 1) 1 (t / n ^ (b.arity - 1).toNat) c c0 (by rw [Int.pow_succ, Int.pow_zero]; omega)
  rw [pm_one hp c c0 c1, Int.pow_succ, Int.pow_zero, Int.one_mul, show a.arity.toNat - 1 + 1 = a.arity.toNat by omega] at this
  exact this.symm
 have eB : ∀ c, 0 ≤ c → c < n → π c * n ^ (b.arity - 1).toNat + pm n π (b.arity - 1).toNat (t % n ^ (b.arity - 1).toNat) = pm n π b.arity.toNat (c * n ^ (b.arity - 1).toNat + t % n ^ (b.arity - 1).toNat) := fun c c0 c1 => by
  have := pm_comb hp 1 (b.arity - 1).toNat c (t % n ^ (b.arity - 1).toNat) m0 m1
  rw [pm_one hp c c0 c1, show 1 + (b.arity - 1).toNat = b.arity.toNat by omega] at this
  exact this.symm
 have key : ∀ c, 0 ≤ c → c < n → ((pm n π (a.arity.toNat - 1) (t / n ^ (b.arity - 1).toNat) * n + π c ∈ (imgR n π a).tuples ∧ π c * n ^ (b.arity - 1).toNat + pm n π (b.arity - 1).toNat (t % n ^ (b.arity - 1).toNat) ∈ (imgR n π b).tuples) ↔
  (t / n ^ (b.arity - 1).toNat * n + c ∈ a.tuples ∧ c * n ^ (b.arity - 1).toNat + t % n ^ (b.arity - 1).toNat ∈ b.tuples)) := fun c c0 c1 => by
  rw [eA c c0 c1, eB c c0 c1]
  refine and_congr (mem_img_pm hp hn ha (comb_nn hp.pos d0 c0) ?_) (mem_img_pm hp hn hb (comb_nn hpw c0 m0) ?_)
  · rw [show a.arity.toNat = (a.arity.toNat - 1) + 1 by omega, Int.pow_succ]; exact comb_lt hp.pos d1 c1
  · rw [show b.arity.toNat = 1 + (b.arity - 1).toNat by omega, Int.pow_add, Int.pow_succ, Int.pow_zero, Int.one_mul]; exact comb_lt hpw c1 m1
 constructor
 · rintro ⟨c, ⟨c0, c1⟩, h⟩
   obtain ⟨x, ⟨x0, x1⟩, rfl⟩ := hp.sur c c0 c1
   exact ⟨x, ⟨x0, x1⟩, (key x x0 x1).1 h⟩
 · rintro ⟨c, ⟨c0, c1⟩, h⟩
   exact ⟨π c, hp.lt c c0 c1, (key c c0 c1).2 h⟩
theorem pm_two {n : Int} {π : Int → Int} (hp : Prm n π) (hn : n ≤ 12) {t : Int} (t0 : 0 ≤ t) (t1 : t < n * n) : pm n π 2 t = π (t / n) * n + π (t % n) := by
 have b0 := Int.ediv_nonneg t0 (Int.le_of_lt hp.pos)
 have b1 := Int.ediv_lt_of_lt_mul hp.pos t1
 rw [pm, pm_one hp _ b0 b1]
theorem rTrans_img {n : Int} {π : Int → Int} (hp : Prm n π) (hn : n ≤ 12) {a : Rl} (ha : a.Ok n) (h2 : a.arity = 2) : rTrans n (imgR n π a) = imgR n π (rTrans n a) := by
 have ia := img_ok hp hn ha
 refine img_of hp hn (rTrans_ok hp.pos hn ha h2) (rTrans_ok hp.pos hn ia h2) rfl fun t t0 t1 => ?_
 have t1 : t < n * n := by rw [← sq hp.pos hn]; exact t1
 obtain ⟨c, d⟩ := pm_rng hp 2 t t0 (by rw [← sq hp.pos hn] at t1; exact t1)
 have d : pm n π 2 t < n * n := by rw [← sq hp.pos hn]; exact d
 show pm n π 2 t ∈ _ ↔ _
 rw [rTrans_mem hp.pos hn ha h2 t0 t1, rTrans_mem hp.pos hn ia h2 c d, pm_two hp hn t0 t1]
 have b0 := Int.ediv_nonneg t0 (Int.le_of_lt hp.pos)
 have b1 := Int.ediv_lt_of_lt_mul hp.pos t1
 obtain ⟨m0, m1⟩ := mod_rng hp.pos t
 obtain ⟨r0, r1⟩ := hp.lt _ m0 m1
 rw [comb_div r0 r1, comb_mod r0 r1]
 have k0 := comb_nn hp.pos m0 b0
 have k1 := comb_lt hp.pos m1 b1
 have := mem_img_pm hp hn ha k0 (by rw [h2, sq hp.pos hn]; exact k1)
 rw [← this, h2, show (2 : Int).toNat = 2 from rfl, pm_two hp hn k0 k1, comb_div b0 b1, comb_mod b0 b1]
theorem rIden_img {n : Int} {π : Int → Int} (hp : Prm n π) (hn : n ≤ 12) : rIden n = imgR n π (rIden n) := by
 refine img_of hp hn (rIden_ok hp.pos hn) (rIden_ok hp.pos hn) rfl fun t t0 t1 => ?_
 have t1 : t < n * n := by rw [← sq hp.pos hn]; exact t1
 have mem : ∀ u, 0 ≤ u → u < n * n → (u ∈ (rIden n).tuples ↔ u / n = u % n) := fun u u0 u1 => by
  refine (mem_cl_rng hp.pos hn (k := 2) (by omega) u0 (by rw [← sq hp.pos hn] at u1; exact u1)).trans ?_
  constructor
  · rintro ⟨y, y0, y1, rfl⟩; rw [comb_div y0 y1, comb_mod y0 y1]
  · intro e
    obtain ⟨m0, m1⟩ := mod_rng hp.pos u
    exact ⟨u % n, m0, m1, by have := div_comb u n; rw [e] at this; exact this.symm⟩
 obtain ⟨c, d⟩ := pm_rng hp 2 t t0 (by rw [← sq hp.pos hn] at t1; exact t1)
 have d : pm n π 2 t < n * n := by rw [← sq hp.pos hn]; exact d
 show pm n π 2 t ∈ _ ↔ _
 rw [mem t t0 t1, mem _ c d, pm_two hp hn t0 t1]
 have b0 := Int.ediv_nonneg t0 (Int.le_of_lt hp.pos)
 have b1 := Int.ediv_lt_of_lt_mul hp.pos t1
 obtain ⟨m0, m1⟩ := mod_rng hp.pos t
 obtain ⟨r0, r1⟩ := hp.lt _ m0 m1
 rw [comb_div r0 r1, comb_mod r0 r1]
 exact ⟨fun e => hp.inj _ _ b0 b1 m0 m1 e, fun e => by rw [e]⟩
theorem rUniv_img {n : Int} {π : Int → Int} (hp : Prm n π) (hn : n ≤ 12) : rUniv n = imgR n π (rUniv n) := by
 refine img_of hp hn (rUniv_ok hp.pos hn) (rUniv_ok hp.pos hn) rfl fun t t0 t1 => ?_
 have e1 : n ^ 1 = n := by rw [Int.pow_succ, Int.pow_zero, Int.one_mul]
 obtain ⟨c, d⟩ := pm_rng hp 1 t t0 t1
 refine (mem_cl_rng hp.pos hn (k := 1) (by omega) c d).trans (Iff.trans ?_ (show t ∈ (rUniv n).tuples ↔ _ from mem_cl_rng hp.pos hn (k := 1) (by omega) t0 t1).symm)
 have t1 : t < n ^ 1 := t1
 rw [e1] at d t1
 exact ⟨fun _ => ⟨t0, t1⟩, fun _ => ⟨c, d⟩⟩
theorem rOver_img {n : Int} {π : Int → Int} (hp : Prm n π) (hn : n ≤ 12) {a b : Rl} (ha : a.Ok n) (hb : b.Ok n) (e : a.arity = b.arity) : rOver n (imgR n π a) (imgR n π b) = imgR n π (rOver n a b) := by
 have g1 := ha.a
 have ia := img_ok hp hn ha
 have ib := img_ok hp hn hb
 refine img_of hp hn (rOver_ok hp.pos hn ha hb e) (rOver_ok hp.pos hn ia ib e) rfl fun t t0 t1 => ?_
 have hk : a.arity.toNat ≤ 3 := by omega
 have t1 : t < n ^ a.arity.toNat := t1
 obtain ⟨c, d⟩ := pm_rng hp _ t t0 t1
 have hB : pm n π a.arity.toNat t ∈ (imgR n π b).tuples ↔ t ∈ b.tuples := by
  have := mem_img_pm hp hn hb t0 (by rw [← e]; exact t1)
  rw [← e] at this; exact this
 refine (mem_cl_rng hp.pos hn hk c d).trans (Iff.trans (or_congr hB (and_congr (mem_img_pm hp hn ha t0 t1) ?_)) (show t ∈ (rOver n a b).tuples ↔ _ from mem_cl_rng hp.pos hn hk t0 t1).symm)
 show (∀ v ∈ (imgR n π b).tuples, v / n ^ (b.arity - 1).toNat ≠ pm n π a.arity.toNat t / n ^ (b.arity - 1).toNat) ↔ ∀ v ∈ b.tuples, v / n ^ (b.arity - 1).toNat ≠ t / n ^ (b.arity - 1).toNat
 have hpw := ipow_pos hp.pos (b.arity - 1).toNat
 have key : ∀ u, 0 ≤ u → u < n ^ a.arity.toNat → (0 ≤ u / n ^ (b.arity - 1).toNat ∧ u / n ^ (b.arity - 1).toNat < n) ∧ pm n π a.arity.toNat u / n ^ (b.arity - 1).toNat = π (u / n ^ (b.arity - 1).toNat) := fun u u0 u1 => by
  have q0 := Int.ediv_nonneg u0 (Int.le_of_lt hpw)
  have q1 : u / n ^ (b.arity - 1).toNat < n := Int.ediv_lt_of_lt_mul hpw (by
   rw [show a.arity.toNat = 1 + (b.arity - 1).toNat by omega, Int.pow_add, Int.pow_succ, Int.pow_zero, Int.one_mul] at u1; exact u1)
  obtain ⟨m0, m1⟩ := mod_rng hpw u
  obtain ⟨r0, r1⟩ := pm_rng hp _ _ m0 m1
  refine ⟨⟨q0, q1⟩, ?_⟩
  rw [show a.arity.toNat = 1 + (b.arity - 1).toNat by omega, pm_split hp hn 1 _ u0, pm_one hp _ q0 q1, comb_div r0 r1]
 obtain ⟨⟨q0, q1⟩, qe⟩ := key t t0 t1
 rw [qe]
 constructor
 · intro h v hv he
   obtain ⟨v0, v1⟩ := hb.rng v hv
   rw [← e] at v1
   obtain ⟨_, ve⟩ := key v v0 v1
   refine h (pm n π a.arity.toNat v) ((mem_img hp hn hb).2 ⟨v, hv, by rw [e]⟩) ?_
   rw [ve, he]
 · intro h v hv he
   obtain ⟨u, hu, rfl⟩ := (mem_img hp hn hb).1 hv
   obtain ⟨v0, v1⟩ := hb.rng u hu
   rw [← e] at v1
   obtain ⟨⟨w0, w1⟩, ve⟩ := key u v0 v1
   rw [show pm n π b.arity.toNat u = pm n π a.arity.toNat u by rw [e], ve] at he
   exact h u hu (hp.inj _ _ w0 w1 q0 q1 he)
theorem tc_map {n : Int} {π : Int → Int} (hp : Prm n π) (hn : n ≤ 12) {R R' : Int → Int → Prop} (h : ∀ x y, R x y → R' (π x) (π y)) {x y : Int} (t : TC R x y) : TC R' (π x) (π y) := by
 induction t with
 | one k => exact .one (h _ _ k)
 | more _ k ih => exact .more ih (h _ _ k)
theorem rClos_img {n : Int} {π : Int → Int} (hp : Prm n π) (hn : n ≤ 12) {a : Rl} (ha : a.Ok n) (h2 : a.arity = 2) : rClos n (imgR n π a) = imgR n π (rClos n a) := by
 refine img_of hp hn (rClos_ok hp.pos hn) (rClos_ok hp.pos hn) rfl fun t t0 t1 => ?_
 have t1 : t < n * n := by rw [← sq hp.pos hn]; exact t1
 obtain ⟨c, d⟩ := pm_rng hp 2 t t0 (by rw [← sq hp.pos hn] at t1; exact t1)
 have b0 := Int.ediv_nonneg t0 (Int.le_of_lt hp.pos)
 have b1 := Int.ediv_lt_of_lt_mul hp.pos t1
 obtain ⟨m0, m1⟩ := mod_rng hp.pos t
 obtain ⟨r0, r1⟩ := hp.lt _ m0 m1
 refine (mem_cl_rng hp.pos hn (k := 2) (by omega) c d).trans (Iff.trans ?_ (show t ∈ (rClos n a).tuples ↔ _ from mem_cl_rng hp.pos hn (k := 2) (by omega) t0 (by rw [← sq hp.pos hn] at t1; exact t1)).symm)
 have d : pm n π 2 t < n * n := by rw [← sq hp.pos hn]; exact d
 show (pm n π 2 t < n * n ∧ TC _ (pm n π 2 t / n) (pm n π 2 t % n)) ↔ (t < n * n ∧ TC _ (t / n) (t % n))
 refine and_congr ⟨fun _ => t1, fun _ => d⟩ ?_
 rw [pm_two hp hn t0 t1, comb_div r0 r1, comb_mod r0 r1]
 have mem : ∀ x y, (0 ≤ x ∧ x < n) → (0 ≤ y ∧ y < n) → (π x * n + π y ∈ (imgR n π a).tuples ↔ x * n + y ∈ a.tuples) := fun x y hx hy => by
  have k0 := comb_nn hp.pos hx.1 hy.1
  have k1 := comb_lt hp.pos hx.2 hy.2
  have := mem_img_pm hp hn ha k0 (by rw [h2, sq hp.pos hn]; exact k1)
  rw [h2, show (2 : Int).toNat = 2 from rfl, pm_two hp hn k0 k1, comb_div hy.1 hy.2, comb_mod hy.1 hy.2] at this
  exact this
 constructor
 · intro h
   have key : ∀ {x' y' : Int}, TC (fun x y => (0 ≤ x ∧ x < n) ∧ (0 ≤ y ∧ y < n) ∧ x * n + y ∈ (imgR n π a).tuples) x' y' → ∀ x, (0 ≤ x ∧ x < n) → π x = x' → ∃ y, (0 ≤ y ∧ y < n) ∧ π y = y' ∧ TC (fun x y => (0 ≤ x ∧ x < n) ∧ (0 ≤ y ∧ y < n) ∧ x * n + y ∈ a.tuples) x y := by
    intro x' y' ht
    induction ht with
    | one k =>
     rintro x hx rfl
     obtain ⟨y, hy, rfl⟩ := hp.sur _ k.2.1.1 k.2.1.2
     exact ⟨y, hy, rfl, .one ⟨hx, hy, (mem x y hx hy).1 k.2.2⟩⟩
    | more _ k ih =>
     rintro x hx rfl
     obtain ⟨y, hy, rfl, h1⟩ := ih x hx rfl
     obtain ⟨z, hz, rfl⟩ := hp.sur _ k.2.1.1 k.2.1.2
     exact ⟨z, hz, rfl, .more h1 ⟨hy, hz, (mem y z hy hz).1 k.2.2⟩⟩
   obtain ⟨y, hy, e, h⟩ := key h _ ⟨b0, b1⟩ rfl
   rw [hp.inj _ _ hy.1 hy.2 m0 m1 e] at h
   exact h
 · exact fun h => tc_map hp hn (fun x y k => ⟨hp.lt _ k.1.1 k.1.2, hp.lt _ k.2.1.1 k.2.1.2, (mem x y k.1 k.2.1).2 k.2.2⟩) h
theorem compr_img {n : Int} {π : Int → Int} (hp : Prm n π) (hn : n ≤ 12) {d : Rl} (hd : d.Ok n) (h1 : d.arity = 1) {q q' : Int → Bool} (hq : ∀ x ∈ d.tuples, q' (π x) = q x) : (⟨1, (imgR n π d).tuples.filter q'⟩ : Rl) = imgR n π ⟨1, d.tuples.filter q⟩ := by
 have id := img_ok hp hn hd
 have ok : ∀ (e : Rl) (p : Int → Bool), e.Ok n → e.arity = 1 → (⟨1, e.tuples.filter p⟩ : Rl).Ok n := fun e p he h1 => ⟨⟨by show (1 : Int) ≤ 1; omega, by show (1 : Int) ≤ 3; omega⟩, he.up.filter _, fun t ht => by have := he.rng t (List.mem_filter.1 ht).1; rw [h1] at this; exact this⟩
 refine img_of hp hn (ok d q hd h1) (ok _ q' id h1) rfl fun t t0 t1 => ?_
 have t2 : t < n ^ d.arity.toNat := by rw [h1]; exact t1
 have t1 : t < n := by have t1 : t < n ^ 1 := t1; rw [Int.pow_succ, Int.pow_zero] at t1; omega
 have e1 := pm_one hp t t0 t1
 have hm := mem_img_pm hp hn hd t0 t2
 rw [h1, show (1 : Int).toNat = 1 from rfl, e1] at hm
 show pm n π 1 t ∈ _ ↔ _
 rw [e1]
 show π t ∈ List.filter q' _ ↔ t ∈ List.filter q _
 rw [List.mem_filter, List.mem_filter, hm]
 exact ⟨fun ⟨a, b⟩ => ⟨a, by rw [← hq t a]; exact b⟩, fun ⟨a, b⟩ => ⟨a, by rw [hq t a]; exact b⟩⟩
theorem img_len {n : Int} {π : Int → Int} (hp : Prm n π) (hn : n ≤ 12) {r : Rl} (hr : r.Ok n) : (imgR n π r).tuples.length = r.tuples.length := by
 have hperm : (imgR n π r).tuples.Perm (r.tuples.map (pm n π r.arity.toNat)) := by
  refine (List.perm_ext_iff_of_nodup ((cl_up _).imp (fun h => by omega)) ?_).2 fun x => ?_
  · refine List.pairwise_map.2 ?_
    refine List.Pairwise.imp_of_mem (fun {x y} hx hy h e => ?_) hr.up
    obtain ⟨a, b⟩ := hr.rng x hx
    obtain ⟨c, d⟩ := hr.rng y hy
    have := pm_inj hp _ _ _ a b c d e
    omega
  · refine (mem_img hp hn hr).trans ?_
    rw [List.mem_map]
    exact ⟨fun ⟨t, h, e⟩ => ⟨t, h, e.symm⟩, fun ⟨t, h, e⟩ => ⟨t, h, e.symm⟩⟩
 rw [hperm.length_eq, List.length_map]
end
end Go.Ab
namespace Go.Ab
open Go Go.Proofs
set_option maxRecDepth 10000
theorem powerP (n : Int) (k : Nat) (hn : 0 ≤ n ∧ n ≤ 12) (hk : k ≤ 3) : AFun Tryz.prog 185 [eI n, eI k] (.p (eI (n ^ k))) := by
 have hb : ∀ i : Nat, i ≤ 3 → 0 ≤ n ^ i ∧ n ^ i ≤ 1728 := fun i hi => by
  refine ⟨Int.pow_nonneg hn.1, ?_⟩
  match i, hi with
  | 0, _ => simp
  | 1, _ => rw [Int.pow_succ, Int.pow_zero, Int.one_mul]; omega
  | 2, _ => rw [Int.pow_succ, Int.pow_succ, Int.pow_zero, Int.one_mul]; exact Int.le_trans (Int.mul_le_mul hn.2 hn.2 hn.1 (by omega)) (by omega)
  | 3, _ => rw [Int.pow_succ, Int.pow_succ, Int.pow_succ, Int.pow_zero, Int.one_mul]; exact Int.le_trans (Int.mul_le_mul (Int.mul_le_mul hn.2 hn.2 hn.1 (by omega)) hn.2 hn.1 (by omega)) (by omega)
 refine AFun.of hT Tryz.func185 rfl rfl (by simp) (AD.run hT hmix ?_)
 refine AD.loopI (fun x : Nat × Int => x.1 ≤ k ∧ x.2 = n ^ x.1) (fun x => k - x.1) (fun x => [(0, .p (eI n)), (5, .p (eI x.2)), (6, .p (eI k)), (7, eint .i64 (x.1 : Nat))]) (fun _ => []) (0, 1) ⟨Nat.zero_le _, by simp⟩ .of fun ⟨i, v⟩ ⟨g1, g2⟩ => AD.run hT hmix ?_
 dsimp only at g1 g2 ⊢
 subst g2
 refine bgo_split (fun hb1 => ?_) (fun hb1 => ?_)
 · replace hb1 := of_decide_eq_true hb1
   have h1 := hb (i + 1) (by omega)
   rw [Int.pow_succ] at h1
   refine ngo_in (by omega) (by omega) (ngo_in (by omega) (by omega) ⟨(i + 1, n ^ i * n), ⟨by dsimp only; omega, by dsimp only; rw [Int.pow_succ]⟩, by dsimp only; omega, .of⟩)
 · replace hb1 := of_decide_eq_false hb1
   obtain rfl : i = k := by omega
   exact ⟨_, _, rfl, rfl, rfl⟩
theorem equalSl (a b : List Int) : AFun Tryz.prog 33 [ints a, ints b] (.p (eB (decide (a = b)))) := by
  have ha : (a.map eI).length = a.length := List.length_map _
  have hb : (b.map eI).length = b.length := List.length_map _
  refine AFun.of hT Tryz.func33 rfl rfl (by simp) (AD.run hT hmix ?_)
  intro _ _
  refine bgo_split (fun h => ?_) (fun h => ?_)
  · exact ⟨_, _, rfl, rfl, by rw [decide_eq_false]; rfl; rintro rfl; simp at h⟩
  have hl : a.length = b.length := by have : (a.length : Int) = b.length := by simpa using h
                                      omega
  intro h1
  refine AD.loopI (fun i : Nat => i ≤ a.length ∧ a.take i = b.take i) (fun i => a.length - i) (fun i => [(0, .p (ints a)), (1, .p (ints b)), (12, eint .i64 (a.map eI).length), (13, eint .i64 i)]) (fun _ => []) 0 ⟨Nat.zero_le _, by simp⟩ .of fun i ⟨g1, g2⟩ => AD.run hT hmix ?_
  refine bgo_split (fun h2 => ?_) (fun h2 => ?_)
  · replace h2 := of_decide_eq_true h2
    have hlt : i < a.length := by omega
    refine igo_map i rfl hlt (igo_map i rfl (by omega) ⟨by kernel_rfl, ?_⟩)
    refine bgo_split (fun h3 => ?_) (fun h3 => ?_)
    · exact ⟨_, _, rfl, rfl, by rw [decide_eq_false]; rfl; rintro rfl; simp at h3⟩
    · replace h3 : a[i] = b[i] := by simpa using h3
      refine ngo_in (by omega) (by omega) ⟨i + 1, ⟨by omega, ?_⟩, by omega, .of⟩
      rw [List.take_succ_eq_append_getElem hlt, List.take_succ_eq_append_getElem (by omega), g2, h3]
  · replace h2 := of_decide_eq_false h2
    obtain rfl : i = a.length := by omega
    rw [List.take_length, hl, List.take_length] at g2
    exact ⟨_, _, rfl, rfl, by rw [decide_eq_true g2]; rfl⟩
theorem equalR (a b : Rl) : AFun Tryz.prog 11 [a.av, b.av] (.p (eB (decide (a.arity = b.arity) && decide (a.tuples = b.tuples)))) := by
 refine AFun.of hT Tryz.func11 rfl rfl (by simp) (AD.run hT hmix ?_)
 refine bgo_split (fun h => ?_) (fun h => ?_)
 · have h' : a.arity = b.arity := of_decide_eq_true h
   exact .pure [ints a.tuples, ints b.tuples] _ rfl (equalSl a.tuples b.tuples) ⟨_, _, rfl, rfl, by rw [decide_eq_true h', Bool.true_and]; rfl⟩
 · have h' : ¬ a.arity = b.arity := of_decide_eq_false h
   exact ⟨_, _, rfl, rfl, by rw [decide_eq_false h', Bool.false_and]; rfl⟩
def cntM (l : List (Int × Int)) : List (AV × AV) := l.map fun x => (eI x.1, eI x.2)
theorem mgo_ints {l : List (Int × Int)} {a : Int} {A : AV × AV → Prop} {B : Prop} (hA : ∀ v, (a, v) ∈ l → A (eI a, eI v)) (hB : (∀ v, (a, v) ∉ l) → B) : List.rec (motive := fun _ => Prop) B (fun x _ ih => bgo (keyB x.1 (eI a)) (A x) ih) (cntM l) := by
 induction l with
 | nil => exact hB (by simp)
 | cons x r ih =>
  show bgo (keyB (eI x.1) (eI a)) (A (eI x.1, eI x.2)) _
  refine bgo_split (fun h => ?_) (fun h => ?_)
  · obtain rfl : x.1 = a := of_decide_eq_true h
    exact hA _ (List.mem_cons_self ..)
  · have hx : ¬ x.1 = a := of_decide_eq_false h
    refine ih (fun v hv => hA v (List.mem_cons_of_mem _ hv)) fun h2 => hB fun v hv => ?_
    rcases List.mem_cons.1 hv with e | hv
    · exact hx (by rw [← e])
    · exact h2 v hv
def setI (l : List (Int × Int)) (a v : Int) : List (Int × Int) := bif l.any (fun x => decide (x.1 = a)) then l.map (fun x => bif decide (x.1 = a) then (a, v) else x) else l ++ [(a, v)]
theorem mset_cnt (l : List (Int × Int)) (a v : Int) : mset (cntM l) (eI a) (eI v) = cntM (setI l a v) := by
 have h1 : (cntM l).any (fun x => keyB x.1 (eI a)) = l.any (fun x => decide (x.1 = a)) := by rw [cntM, List.any_map]; rfl
 rw [mset, setI, h1]
 cases l.any (fun x => decide (x.1 = a)) with
 | true =>
  simp only [cond_true, cntM, List.map_map]
  refine List.map_congr_left fun x _ => ?_
  show (bif decide (x.1 = a) then _ else _) = _
  simp only [Function.comp]
  cases decide (x.1 = a) <;> rfl
 | false => simp [cntM]
theorem setI_mem {l : List (Int × Int)} {a v b w : Int} (h : (b, w) ∈ setI l a v) : (b = a ∧ w = v) ∨ (b, w) ∈ l := by
 unfold setI at h
 cases hc : l.any (fun x => decide (x.1 = a)) with
 | true =>
  rw [hc] at h
  obtain ⟨x, hx, e⟩ := List.mem_map.1 h
  cases hd : decide (x.1 = a) with
  | true => rw [hd] at e; cases e; exact .inl ⟨rfl, rfl⟩
  | false => rw [hd] at e; exact .inr (by rw [← e]; exact hx)
 | false =>
  rw [hc] at h
  rcases List.mem_append.1 h with h | h
  · exact .inr h
  · cases List.mem_singleton.1 h; exact .inl ⟨rfl, rfl⟩
theorem setI_key {l : List (Int × Int)} {a v b : Int} : (∃ w, (b, w) ∈ setI l a v) ↔ b = a ∨ ∃ w, (b, w) ∈ l := by
 constructor
 · rintro ⟨w, h⟩
   rcases setI_mem h with ⟨h, _⟩ | h
   · exact .inl h
   · exact .inr ⟨w, h⟩
 · intro h
   unfold setI
   cases hc : l.any (fun x => decide (x.1 = a)) with
   | true =>
    have : ∃ w, (b, w) ∈ l := by
     rcases h with rfl | h
     · obtain ⟨x, hx, he⟩ := List.any_eq_true.1 hc
       have he := of_decide_eq_true he
       exact ⟨x.2, by rw [← he]; exact hx⟩
     · exact h
    obtain ⟨w, hw⟩ := this
    by_cases e : b = a
    · subst e; exact ⟨v, List.mem_map.2 ⟨_, hw, by simp⟩⟩
    · exact ⟨w, List.mem_map.2 ⟨_, hw, by simp [e]⟩⟩
   | false =>
    rcases h with rfl | ⟨w, h⟩
    · exact ⟨v, List.mem_append_right _ (List.mem_singleton.2 rfl)⟩
    · exact ⟨w, List.mem_append_left _ h⟩
structure Cnt (r : List Int) (g : Int → Int) (l : List (Int × Int)) : Prop where
 key : ∀ a, (∃ w, (a, w) ∈ l) ↔ ∃ x ∈ r, g x = a
 pos : ∀ a w, (a, w) ∈ l → 1 ≤ w ∧ w ≤ r.length
theorem sameP (x : Int) : AFun Tryz.prog 181 [eI x] (.p (eI x)) := by
 exact AFun.of hT Tryz.func181 rfl rfl (by simp) (AD.run hT hmix ⟨_, _, rfl, rfl, rfl⟩)
theorem setP (r : Rl) (f : FuncId) (caps : List AV) (g : Int → Int) (hg : ∀ x ∈ r.tuples, AFun Tryz.prog f (eI x :: caps) (.p (eI (g x)))) :
 ∃ l, Cnt r.tuples g l ∧ AFun Tryz.prog 180 [r.av, .fn (.func f) [] caps] (.p (.mp (.int .i64) (cntM l))) := by
 suffices hh : ∃ y, (∃ l, Cnt r.tuples g l ∧ y = .p (.mp (.int .i64) (cntM l))) ∧ AFun Tryz.prog 180 [r.av, .fn (.func f) [] caps] y by
  obtain ⟨y, ⟨l, h1, rfl⟩, hf⟩ := hh
  exact ⟨l, h1, hf⟩
 have ha : (r.tuples.map eI).length = r.tuples.length := List.length_map _
 refine AFunE.intro hT Tryz.func180 rfl rfl (by simp) ⟨_, r.tuples.map fun x => (g x, 1), ⟨fun a => ⟨fun ⟨w, hw⟩ => let ⟨x, hx, e⟩ := List.mem_map.1 hw; ⟨x, hx, congrArg Prod.fst e⟩, fun ⟨x, hx, e⟩ => ⟨1, List.mem_map.2 ⟨x, hx, by rw [e]⟩⟩⟩, fun a w hw => by
  obtain ⟨x, hx, e⟩ := List.mem_map.1 hw
  cases e
  have := List.length_pos_of_mem hx
  omega⟩, rfl⟩ (AD.cut hT hmix 7 (fun es : List (AV × AV) => ∃ l, es = cntM l ∧ Cnt r.tuples g l) (fun es => [(5, .p (.mp (.int .i64) es))]) (fun _ => []) ?_ fun es ⟨l, he, hl⟩ => AD.run hT hmix ⟨_, _, rfl, rfl, l, hl, by rw [he]; rfl⟩)
 intro h1
 refine AD.loopI (fun x : Nat × List (AV × AV) => x.1 ≤ r.tuples.length ∧ ∃ l, x.2 = cntM l ∧ Cnt (r.tuples.take x.1) g l) (fun x => r.tuples.length - x.1) (fun x => [(1, .p (.fn (.func f) [] caps)), (5, .mtok 8), (10, .p (ints r.tuples)), (11, eint .i64 (r.tuples.map eI).length), (12, eint .i64 x.1)]) (fun x => [(8, .map (.int .i64) x.2)]) (0, []) ⟨Nat.zero_le _, [], rfl, ⟨by simp, by simp⟩⟩ .of fun ⟨i, es⟩ ⟨g1, l, g2, g3⟩ => AD.run hT hmix ?_
 dsimp only at g1 g2 g3 ⊢
 subst g2
 refine bgo_split (fun h2 => ?_) (fun h2 => ?_)
 · replace h2 := of_decide_eq_true h2
   have hlt : i < r.tuples.length := by omega
   have hnext : ∀ v : Int, 1 ≤ v ∧ v ≤ (i : Int) + 1 → Cnt (r.tuples.take (i + 1)) g (setI l (g r.tuples[i]) v) := by
    intro v hv
    refine ⟨fun a => ?_, fun a w hw => ?_⟩
    · rw [setI_key, g3.key, List.take_succ_eq_append_getElem hlt]
      simp only [List.mem_append, List.mem_singleton]
      constructor
      · rintro (rfl | ⟨x, hx, rfl⟩)
        · exact ⟨_, .inr rfl, rfl⟩
        · exact ⟨x, .inl hx, rfl⟩
      · rintro ⟨x, hx | rfl, rfl⟩
        · exact .inr ⟨x, hx, rfl⟩
        · exact .inl rfl
    · have : (r.tuples.take (i + 1)).length = i + 1 := by simp; omega
      rw [this]
      rcases setI_mem hw with ⟨_, rfl⟩ | hw
      · exact ⟨hv.1, by omega⟩
      · have := g3.pos _ _ hw
        have : (r.tuples.take i).length = i := by simp; omega
        omega
   refine igo_map i rfl hlt ?_
   refine .pure (eI r.tuples[i] :: caps) _ (toPs_p (eI r.tuples[i] :: caps)) (hg _ (List.getElem_mem hlt)) ?_
   refine mgo_ints (fun v hv => ?_) (fun hv => ?_)
   · have hv2 := g3.pos _ _ hv
     rw [show (r.tuples.take i).length = i by simp; omega] at hv2
     refine ngo_in (by omega) (by omega) (ngo_in (by omega) (by omega) ⟨(i + 1, mset (cntM l) (eI (g r.tuples[i])) (eI (v + 1))), ⟨by dsimp only; omega, _, mset_cnt l _ _, hnext _ (by omega)⟩, by dsimp only; omega, .of⟩)
   · refine ngo_in (by omega) (by omega) (ngo_in (by omega) (by omega) ⟨(i + 1, mset (cntM l) (eI (g r.tuples[i])) (eI 1)), ⟨by dsimp only; omega, _, mset_cnt l _ _, hnext _ (by omega)⟩, by dsimp only; omega, .of⟩)
 · replace h2 := of_decide_eq_false h2
   obtain rfl : i = r.tuples.length := by omega
   rw [List.take_length] at g3
   exact ⟨_, ⟨l, rfl, g3⟩, .mseal 8⟩
abbrev mref (l : List (Int × Int)) : AV := .ref [.mp (.int .i64) (cntM l)]
theorem interF {r : List Int} {l : List (Int × Int)} (h : Cnt r (fun x => x) l) (x : Int) : AFun Tryz.prog 183 [eI x, mref l] (.p (eB (decide (x ∈ r)))) := by
 refine AFun.of hT Tryz.func183 rfl rfl (by simp) (AD.run hT hmix ?_)
 refine mgo_ints (fun v hv => ?_) (fun hv => ?_)
 · have h1 := h.pos _ _ hv
   obtain ⟨y, hy, rfl⟩ := (h.key x).1 ⟨v, hv⟩
   exact ⟨_, _, rfl, rfl, by rw [decide_eq_true hy]; simp only [decide_eq_true (show v > 0 by omega)]; rfl⟩
 · have : x ∉ r := fun hx => by
    obtain ⟨w, hw⟩ := (h.key x).2 ⟨x, hx, rfl⟩
    exact hv w hw
   exact ⟨_, _, rfl, rfl, by rw [decide_eq_false this]; rfl⟩
theorem diffF {r : List Int} {l : List (Int × Int)} (h : Cnt r (fun x => x) l) (x : Int) : AFun Tryz.prog 184 [eI x, mref l] (.p (eB (decide (x ∉ r)))) := by
 refine AFun.of hT Tryz.func184 rfl rfl (by simp) (AD.run hT hmix ?_)
 refine mgo_ints (fun v hv => ?_) (fun hv => ?_)
 · have h1 := h.pos _ _ hv
   obtain ⟨y, hy, rfl⟩ := (h.key x).1 ⟨v, hv⟩
   exact ⟨_, _, rfl, rfl, by rw [decide_eq_false (fun h => h hy)]; rw [show (v == 0) = false by simp; omega]; rfl⟩
 · have : x ∉ r := fun hx => by
    obtain ⟨w, hw⟩ := (h.key x).2 ⟨x, hx, rfl⟩
    exact hv w hw
   exact ⟨_, _, rfl, rfl, by rw [decide_eq_true this]; rfl⟩
theorem keepP (r : List Int) (hlen : r.length ≤ 1000000000) (f : FuncId) (caps : List AV) (q : Int → Bool) (hq : ∀ x ∈ r, AFun Tryz.prog f (eI x :: caps) (.p (eB (q x)))) : AFun Tryz.prog 182 [ints r, .fn (.func f) [] caps] (.p (ints (r.filter q))) := by
 have ha : (r.map eI).length = r.length := List.length_map _
 refine AFun.of hT Tryz.func182 rfl rfl (by simp) (AD.run hT hmix ?_)
 intro h1
 refine AD.loopI (fun x : Nat × List AV => x.1 ≤ r.length ∧ x.2 = ((r.take x.1).filter q).map eI) (fun x => r.length - x.1) (fun x => [(1, .p (.fn (.func f) [] caps)), (5, .own 1 x.2 5), (8, .p (ints r)), (9, eint .i64 (r.map eI).length), (10, eint .i64 x.1)]) (fun x => [(5, .tail x.2.length)]) (0, []) ⟨Nat.zero_le _, rfl⟩ .of fun ⟨i, es⟩ ⟨g1, g2⟩ => AD.run hT hmix ?_
 dsimp only at g1 g2 ⊢
 have hes : es.length ≤ i := by
  rw [g2, List.length_map]
  refine Nat.le_trans (List.length_filter_le ..) ?_
  rw [List.length_take]; omega
 refine bgo_split (fun h2 => ?_) (fun h2 => ?_)
 · replace h2 := of_decide_eq_true h2
   have hlt : i < r.length := by omega
   refine igo_map i rfl hlt ?_
   refine .pure (eI r[i] :: caps) _ (toPs_p (eI r[i] :: caps)) (hq _ (List.getElem_mem hlt)) ?_
   refine bgo_split (fun h3 => ?_) (fun h3 => ?_)
   · refine ⟨rfl, ⟨by simp; omega, by simp; omega⟩, ngo_in (by omega) (by omega) ⟨(i + 1, es ++ [eI r[i]]), ⟨by dsimp only; omega, ?_⟩, by dsimp only; omega, .of⟩⟩
     dsimp only
     rw [List.take_succ_eq_append_getElem hlt, List.filter_append, List.map_append, g2]
     simp [h3]
   · refine ngo_in (by omega) (by omega) ⟨(i + 1, es), ⟨by dsimp only; omega, ?_⟩, by dsimp only; omega, .of⟩
     dsimp only
     rw [List.take_succ_eq_append_getElem hlt, List.filter_append, List.map_append, g2]
     simp [h3]
 · replace h2 := of_decide_eq_false h2
   obtain rfl : i = r.length := by omega
   rw [List.take_length] at g2
   exact ⟨_, _, rfl, rfl, by rw [g2]; rfl⟩
theorem interP (a b : Rl) (hlen : a.tuples.length ≤ 1000000000) : AFun Tryz.prog 113 [a.av, b.av] (.p (Rl.av ⟨a.arity, a.tuples.filter fun x => decide (x ∈ b.tuples)⟩)) := by
 obtain ⟨l, hl, hf⟩ := setP b 181 [] (fun x => x) (fun x _ => sameP x)
 refine AFun.of hT Tryz.func113 rfl rfl (by simp) (AD.cut hT hmix 2 (fun _ : Unit => True) (fun _ => [(2, .loc 2 0), (4, .loc 4 0), (5, .p (mref l))]) (fun _ => [(2, .box 50 (a.cs.map .p)), (4, .box 50 [.p (eI 0), .p (.slice 1 [])])]) ?_ fun _ _ => AD.run hT hmix ?_)
 · exact .pure [b.av, .fn (.func 181) [] []] _ rfl hf ⟨(), trivial, .sealB 5⟩
 · exact .pure [ints a.tuples, .fn (.func 183) [] [mref l]] _ rfl (keepP a.tuples hlen _ _ _ fun x _ => interF hl x) ⟨by kernel_rfl, _, _, rfl, rfl, rfl⟩
theorem diffP (a b : Rl) (hlen : a.tuples.length ≤ 1000000000) : AFun Tryz.prog 114 [a.av, b.av] (.p (Rl.av ⟨a.arity, a.tuples.filter fun x => decide (x ∉ b.tuples)⟩)) := by
 obtain ⟨l, hl, hf⟩ := setP b 181 [] (fun x => x) (fun x _ => sameP x)
 refine AFun.of hT Tryz.func114 rfl rfl (by simp) (AD.cut hT hmix 2 (fun _ : Unit => True) (fun _ => [(2, .loc 2 0), (4, .loc 4 0), (5, .p (mref l))]) (fun _ => [(2, .box 50 (a.cs.map .p)), (4, .box 50 [.p (eI 0), .p (.slice 1 [])])]) ?_ fun _ _ => AD.run hT hmix ?_)
 · exact .pure [b.av, .fn (.func 181) [] []] _ rfl hf ⟨(), trivial, .sealB 5⟩
 · exact .pure [ints a.tuples, .fn (.func 184) [] [mref l]] _ rfl (keepP a.tuples hlen _ _ _ fun x _ => diffF hl x) ⟨by kernel_rfl, _, _, rfl, rfl, rfl⟩
theorem inP (a b : Rl) (hlen : a.tuples.length ≤ 1000000000) : AFun Tryz.prog 78 [a.av, b.av] (.p (eB (decide (∀ x ∈ a.tuples, x ∈ b.tuples)))) := by
 refine AFun.of hT Tryz.func78 rfl rfl (by simp) (AD.run hT hmix (.pure [a.av, b.av] _ rfl (diffP a b hlen) ?_))
 intro h
 refine ⟨_, _, rfl, rfl, ?_⟩
 rw [show (decide (∀ x ∈ a.tuples, x ∈ b.tuples)) = ((((a.tuples.filter fun x => decide (x ∉ b.tuples)).map eI).length : Int) == 0) from ?_]
 · rfl
 · rw [Bool.eq_iff_iff]
   simp
theorem up_pairs {f : Nat → Int} (hf : ∀ i j, i < j → f i < f j) (n : Nat) : Up ((List.range n).map f) := List.pairwise_map.2 (List.pairwise_lt_range.imp fun {i j} h => hf i j h)
theorem idenP (n : Nat) (hn : n ≤ 12) : AFun Tryz.prog 74 [eI n] (.p (rIden n).av) := by
 have hb : ∀ i : Nat, i < n → 0 ≤ (i : Int) * n ∧ (i : Int) * n ≤ 144 := fun i hi => ⟨Int.mul_nonneg (by omega) (by omega), Int.le_trans (Int.mul_le_mul (by omega : (i : Int) ≤ 12) (by omega : (n : Int) ≤ 12) (by omega) (by omega)) (by omega)⟩
 have hres : (rIden n).tuples = (List.range n).map fun i : Nat => (i : Int) * n + i := by
  refine (cl_eq (up_pairs (fun i j h => ?_) n) fun x => ?_).symm
  · have : (i : Int) * n ≤ (j : Int) * n := Int.mul_le_mul_of_nonneg_right (by omega) (by omega)
    omega
  · constructor
    · intro hx
      obtain ⟨i, hi, rfl⟩ := List.mem_map.1 hx
      have hi := List.mem_range.1 hi
      have := hb i hi
      exact ⟨⟨by omega, by omega⟩, i, by omega, by omega, rfl⟩
    · rintro ⟨_, y, h0, h1, rfl⟩
      exact List.mem_map.2 ⟨y.toNat, List.mem_range.2 (by omega), by rw [Int.toNat_of_nonneg h0]⟩
 refine AFun.of hT Tryz.func74 rfl rfl (by simp) (AD.run hT hmix ?_)
 refine AD.loopI (fun x : Nat × List AV => x.1 ≤ n ∧ x.2 = ((List.range x.1).map fun i : Nat => (i : Int) * n + i).map eI) (fun x => n - x.1) (fun x => [(0, .p (eI n)), (2, .loc 2 0), (3, .loc 3 0), (6, .p (eI n)), (7, eint .i64 x.1)]) (fun x => [(2, .box 50 [.p (eI 0), .full 1 []]), (3, .box 50 [.p (eI 2), .own 1 x.2 18]), (18, .tail x.2.length)]) (0, []) ⟨Nat.zero_le _, rfl⟩ .of fun ⟨i, es⟩ ⟨g1, g2⟩ => AD.run hT hmix ?_
 dsimp only at g1 g2 ⊢
 have hes : es.length = i := by rw [g2]; simp
 refine bgo_split (fun h2 => ?_) (fun h2 => ?_)
 · replace h2 := of_decide_eq_true h2
   have := hb i (by omega)
   refine ngo_in (by omega) (by omega) (ngo_in (by omega) (by omega) ⟨rfl, ⟨by simp; omega, by simp; omega⟩, ngo_in (by omega) (by omega) ⟨(i + 1, es ++ [eI ((i : Int) * n + i)]), ⟨by dsimp only; omega, ?_⟩, by dsimp only; omega, .of⟩⟩)
   dsimp only
   rw [List.range_succ, List.map_append, List.map_append, g2]; rfl
 · replace h2 := of_decide_eq_false h2
   obtain rfl : i = n := by omega
   exact ⟨_, _, rfl, rfl, by rw [g2, ← hres]; rfl⟩
theorem overF1 (n : Int) (k : Nat) (hn : 0 < n ∧ n ≤ 12) (x : Int) (hx : 0 ≤ x ∧ x < 2000) : AFun Tryz.prog 186 [eI x, .ref [eI (n ^ k)]] (.p (eI (x / n ^ k))) := by
 have hp : 0 < n ^ k := Int.pow_pos hn.1
 have h1 : 0 ≤ x / n ^ k := Int.ediv_nonneg hx.1 (by omega)
 have h2 : x / n ^ k ≤ x := Int.ediv_le_self _ hx.1
 refine AFun.of hT Tryz.func186 rfl rfl (by simp) (AD.run hT hmix ?_)
 have h3 : IntKind.i64.wrap (x.tdiv (n ^ k)) = x / n ^ k := by rw [Int.tdiv_eq_ediv_of_nonneg hx.1]; exact wrap64_in (by omega) (by omega)
 refine ⟨by omega, x / n ^ k, h3, ?_⟩
 exact ⟨_, _, rfl, rfl, rfl⟩
theorem overF2 (n : Int) (k : Nat) (hn : 0 < n ∧ n ≤ 12) {r : List Int} {l : List (Int × Int)} (h : Cnt r (fun v => v / n ^ k) l) (x : Int) (hx : 0 ≤ x ∧ x < 2000) : AFun Tryz.prog 187 [eI x, mref l, .ref [.fn (.func 186) [] [.ref [eI (n ^ k)]]]] (.p (eB (decide (∀ v ∈ r, v / n ^ k ≠ x / n ^ k)))) := by
 refine AFun.of hT Tryz.func187 rfl rfl (by simp) (AD.run hT hmix ?_)
 refine .pure [eI x, .ref [eI (n ^ k)]] _ rfl (overF1 n k hn x hx) ?_
 refine mgo_ints (fun v hv => ?_) (fun hv => ?_)
 · have h1 := h.pos _ _ hv
   obtain ⟨y, hy, e⟩ := (h.key _).1 ⟨v, hv⟩
   exact ⟨by kernel_rfl, _, _, rfl, rfl, by rw [decide_eq_false (fun h => h y hy e)]; rw [show (v == 0) = false by simp; omega]; rfl⟩
 · have : ∀ v ∈ r, v / n ^ k ≠ x / n ^ k := fun y hy e => by
    obtain ⟨w, hw⟩ := (h.key (x / n ^ k)).2 ⟨y, hy, e⟩
    exact hv w hw
   exact ⟨by kernel_rfl, _, _, rfl, rfl, by rw [decide_eq_true this]; rfl⟩
def prodL (P : Int) (a b : List Int) : List Int := a.flatMap fun u => b.map fun v => u * P + v
theorem prodL_up {P : Int} (b : List Int) (hb : Up b) (hr : ∀ v ∈ b, 0 ≤ v ∧ v < P) : ∀ (a : List Int), Up a → Up (prodL P a b)
 | [], _ => List.Pairwise.nil
 | u :: a, ha => by
  have ha' := List.pairwise_cons.1 ha
  rw [prodL, List.flatMap_cons]
  refine List.pairwise_append.2 ⟨List.pairwise_map.2 (hb.imp fun h => by omega), prodL_up b hb hr a ha'.2, fun x hx y hy => ?_⟩
  obtain ⟨v, hv, rfl⟩ := List.mem_map.1 hx
  obtain ⟨u', hu', hy⟩ := List.mem_flatMap.1 hy
  obtain ⟨v', hv', rfl⟩ := List.mem_map.1 hy
  have h1 := ha'.1 u' hu'
  have h2 := hr v hv
  have h3 := hr v' hv'
  have h4 : (u + 1) * P ≤ u' * P := Int.mul_le_mul_of_nonneg_right (by omega) (by omega)
  rw [Int.add_mul, Int.one_mul] at h4
  omega
theorem up_len {l : List Int} (h : Up l) (hr : ∀ x ∈ l, 0 ≤ x ∧ x < 2000) : l.length ≤ 2000 := by
 have : ∀ (l : List Int) (lo : Int), Up l → (∀ x ∈ l, lo ≤ x ∧ x < 2000) → (l.length : Int) ≤ max 0 (2000 - lo) := by
  intro l
  induction l with
  | nil => intro lo _ _; simp; omega
  | cons x r ih =>
   intro lo h hr
   have h' := List.pairwise_cons.1 h
   have h1 := hr x (List.mem_cons_self ..)
   have := ih (x + 1) h'.2 fun y hy => ⟨by have := h'.1 y hy; omega, (hr y (List.mem_cons_of_mem _ hy)).2⟩
   simp only [List.length_cons]
   omega
 have := this l 0 h hr
 omega
end Go.Ab
namespace Go.Ab
open Go Go.RowKit
mutual
theorem renE_inv (d k : Nat) : ∀ e : EV, renE d k (renE d k e) = e
 | .dead => rfl
 | .p _ => rfl
 | .loc j off => by simp only [renE, sw_sw]
 | .own sz es j => by simp only [renE, sw_sw]
 | .full _ _ => rfl
 | .eptr _ _ => rfl
 | .arr sz j off n => by simp only [renE, sw_sw]
 | .agg cs => by simp only [renE, renL_inv d k cs]
 | .fn f a b => by simp only [renE, renL_inv d k a, renL_inv d k b]
 | .tup vs => by simp only [renE, renL_inv d k vs]
 | .mtok j => by simp only [renE, sw_sw]
theorem renL_inv (d k : Nat) : ∀ l : List EV, renE.renL d k (renE.renL d k l) = l
 | [] => rfl
 | e :: r => by simp only [renE.renL, renE_inv d k e, renL_inv d k r]
end
theorem renO_inv (d k : Nat) (o : AObj) : renO d k (renO d k o) = o := by
 cases o <;> simp only [renO, renL_inv]
theorem renHp_inv (d k : Nat) (H : Hp) : renHp d k (renHp d k H) = H := by
 funext j; simp only [renHp, sw_sw, renO_inv]
theorem hp_renH (d k : Nat) (h : AHp) : hp (renH d k h) = renHp d k (hp h) := funext fun j => hp_ren d k h j
theorem Gh.ren_inv (g : Gh) (d k : Nat) : (g.ren d k).ren d k = g := by
 cases g; simp only [Gh.ren, sw_sw]
theorem WInv.ren {g H w} (hi : WInv g H w) (d k : Nat) : WInv (g.ren d k) (renHp d k H) w := by
 refine ⟨hi.fz, fun j => ?_, fun i j b h1 h2 => ?_⟩
 · have hob := hi.obj (sw d k j)
   simp only [renHp]
   cases hq : H (sw d k j) with
   | gone => trivial
   | lost => trivial
   | tail m => rw [hq] at hob; exact hob
   | map kp es => rw [hq] at hob; exact hob
   | ext e => rw [hq] at hob; exact hob
   | box t cs =>
    rw [hq] at hob
    refine ⟨fun h0 => ?_, fun hlt => ?_⟩
    · have := hob.1 h0
      exact List.eq_nil_of_length_eq_zero (by rw [renL_length, this]; rfl)
    · obtain ⟨vs, h1, h2, h3, h4, h5⟩ := hob.2 hlt
      refine ⟨vs, h1, by rw [renL_length]; exact h2, h3, fun i v x hv hx => ?_, h5⟩
      rw [renL_get] at hx
      cases hq : cs[i]? with
      | none => rw [hq] at hx; cases hx
      | some y => rw [hq] at hx; cases hx; exact (h4 i v y hv hq).ren d k
 · have := hi.inj _ _ b (Bset.ren h1) (Bset.ren h2)
   have h3 := congrArg (sw d k) this
   rwa [sw_sw, sw_sw] at h3
theorem renO_eq {d k : Nat} {o o' : AObj} (h : renO d k o = o') : o = renO d k o' := by rw [← h, renO_inv]
theorem GLe.ren {g H g' H'} (h : GLe g H g' H') (d k : Nat) : GLe (g.ren d k) (renHp d k H) (g'.ren d k) (renHp d k H') := by
 refine ⟨h.fz, fun j t cs hj => ?_, fun j hj => ?_, fun j m hj => ?_, fun j kp es hj => ?_⟩
 · rcases h.box (sw d k j) t _ (renO_eq hj) with h1 | ⟨h1, h2, cs', h3, h4⟩
   · exact .inl (by simp only [renHp, h1, renO])
   · exact .inr ⟨h1, h2, renE.renL d k cs', by simp only [renHp, h3, renO], by rw [renL_length, h4, renL_length]⟩
 · have := h.lost (sw d k j) (renO_eq hj)
   simp only [renHp, this, renO]
 · obtain ⟨m', h1, h2, h3⟩ := h.tail (sw d k j) m (renO_eq hj)
   exact ⟨m', by simp only [renHp, h1, renO], h2, h3⟩
 · rcases h.map (sw d k j) kp es (renO_eq hj) with h1 | ⟨h1, es', h2⟩
   · exact .inl (by simp only [renHp, h1, renO])
   · exact .inr ⟨h1, es', by simp only [renHp, h2, renO]⟩
theorem Fr.ren {g H w g' H' w' n ds ro} (h : Fr ⟨w, g, H, n, ds, ro⟩ g' H' w') (d k : Nat) : Fr ⟨w, g.ren d k, renHp d k H, n, ds, ro⟩ (g'.ren d k) (renHp d k H') w' := by
 have hX : ∀ b, Ctx.X ⟨w, g, H, n, ds, ro⟩ b → Ctx.X ⟨w, g.ren d k, renHp d k H, n, ds, ro⟩ b := fun b ⟨j, hj⟩ => by
  refine ⟨sw d k j, ?_⟩
  have hj : Bset g j (H j) b := hj
  show Bset (g.ren d k) (sw d k j) (renHp d k H (sw d k j)) b
  rw [← Gh.ren_inv g d k, ← sw_sw d k j, ← renHp_inv d k H] at hj
  have := Bset.ren (g := g.ren d k) (H := renHp d k H) (d := d) (k := k) (j := sw d k (sw d k j)) (by simpa only [renHp_inv, Gh.ren_inv] using hj)
  simpa only [sw_sw] using this
 have hX2 : ∀ b, Ctx.X ⟨w, g.ren d k, renHp d k H, n, ds, ro⟩ b → Ctx.X ⟨w, g, H, n, ds, ro⟩ b := fun b ⟨j, hj⟩ => ⟨_, Bset.ren hj⟩
 refine ⟨h.kept.mono fun b _ hb => hX b hb, h.fz, fun b hb hx => h.low b hb fun hx' => hx (hX b hx'), fun j b hb => ?_, fun j t cs hj => ?_, fun j kp es hj => ?_, fun j m hj => ?_⟩
 · rcases h.own _ b (Bset.ren hb) with h1 | h1
   · exact .inl (hX b h1)
   · exact .inr h1
 · rcases h.box (sw d k j) t _ (renO_eq hj) with h1 | ⟨cs', h3, h4, h1, h2⟩
   · exact .inl (by simp only [renHp, h1, renO])
   · exact .inr ⟨renE.renL d k cs', by simp only [renHp, h3, renO], by rw [renL_length, h4, renL_length], h1, h2⟩
 · rcases h.map (sw d k j) kp es (renO_eq hj) with h1 | ⟨es', h2, h1⟩
   · exact .inl (by simp only [renHp, h1, renO])
   · exact .inr ⟨es', by simp only [renHp, h2, renO], h1⟩
 · obtain ⟨m', h1, h2, h3⟩ := h.tail (sw d k j) m (renO_eq hj)
   exact ⟨m', by simp only [renHp, h1, renO], h2, h3⟩
theorem EFun.ren {P : Program} {f : FuncId} {args : List EV} {h0 : AHp} {y : EV} {h1 : AHp} (h : EFun P f args h0 y h1) (d k : Nat) : EFun P f (renE.renL d k args) (renH d k h0) (renE d k y) (renH d k h1) := by
 refine ⟨h.1, fun g w vs hi hl hr => ?_⟩
 rw [hp_renH] at hi hr ⊢
 have hi' := hi.ren d k
 rw [renHp_inv] at hi'
 refine (h.2 (g.ren d k) w vs hi' (by rw [hl, renL_length]) fun i v x hv hx => ?_).mono ?_
 · have := (hr i v (renE d k x) hv (by rw [renL_get, hx]; rfl)).ren d k
   rwa [renHp_inv, renE_inv] at this
 · rintro e w' ⟨v, g', rfl, h1', h2, h3, h4⟩
   have a1 := h1'.ren d k
   have a3 := h3.ren d k
   rw [Gh.ren_inv] at a1 a3
   refine ⟨v, g'.ren d k, rfl, ?_, ?_, ?_, ?_⟩
   · rw [hp_renH]; exact a1
   · rw [hp_renH]; exact h2.ren d k
   · rw [hp_renH]; exact a3
   · rw [hp_renH]; exact h4.ren d k
def argLe : List EV → List EV → Prop
 | [], [] => True
 | a :: r, b :: s => (a = b ∨ ∃ y, toP a = some y ∧ b = .p y) ∧ argLe r s
 | _, _ => False
theorem argLe_at : ∀ {a b : List EV}, argLe a b → a.length = b.length ∧ ∀ (i : Nat) (y : EV), b[i]? = some y → ∃ x, a[i]? = some x ∧ (x = y ∨ ∃ z, toP x = some z ∧ y = .p z)
 | [], [], _ => ⟨rfl, fun i y h => by simp at h⟩
 | [], _ :: _, h => h.elim
 | _ :: _, [], h => h.elim
 | a :: r, b :: s, h => by
  obtain ⟨h1, h2⟩ := argLe_at h.2
  refine ⟨by simp [h1], fun i y hy => ?_⟩
  cases i with
  | zero => simp at hy; subst hy; exact ⟨a, rfl, h.1⟩
  | succ i => simpa using h2 i y (by simpa using hy)
theorem EFun.le {P : Program} {f : FuncId} {args : List EV} {h0 : AHp} {y : EV} {h1 : AHp} (h : EFun P f args h0 y h1) {args' : List EV} (ha : argLe args' args) : EFun P f args' h0 y h1 := by
 obtain ⟨e1, e2⟩ := argLe_at ha
 refine ⟨h.1, fun g w vs hi hl hr => h.2 g w vs hi (hl.trans e1) fun i v x hv hx => ?_⟩
 obtain ⟨x', hx', h3⟩ := e2 i x hx
 have := hr i v x' hv hx'
 rcases h3 with rfl | ⟨z, hz, rfl⟩
 · exact this
 · exact .p _ _ (toP_rep hz this)
end Go.Ab
namespace Go.Proofs
open Go.Shelf
def Tryz.lays125_ren : Go.Shelf.Ren := ⟨fun | 125 => 77 | 128 => 135 | 129 => 136 | n => n, fun | 46 => 145 | 3 => 3 | 51 => 39 | 53 => 214 | 4 => 4 | 5 => 5 | 9 => 9 | n => n, fun | n => n⟩
theorem Tryz.lays125 : Go.Proofs.Lays.n125 Tryz.prog Tryz.lays125_ren := {
 mixed := by kernel_rfl
 f125 := Tryz.func77.trans (congrArg some (by kernel_rfl))
 f128 := Tryz.func135.trans (congrArg some (by kernel_rfl))
 f129 := Tryz.func136.trans (congrArg some (by kernel_rfl))
 t3 := Tryz.underlying3
 a3 := Tryz.isAgg3
 z3 := Tryz.sizeOf3
 v3 := Tryz.zeroValue3
 t4 := Tryz.underlying4
 a4 := Tryz.isAgg4
 z4 := Tryz.sizeOf4
 v4 := Tryz.zeroValue4
 t5 := Tryz.underlying5
 a5 := Tryz.isAgg5
 z5 := Tryz.sizeOf5
 v5 := Tryz.zeroValue5
 t9 := Tryz.underlying9
 a9 := Tryz.isAgg9
 z9 := Tryz.sizeOf9
 v9 := Tryz.zeroValue9
 t46 := Tryz.underlying145
 a46 := Tryz.isAgg145
 z46 := Tryz.sizeOf145
 v46 := Tryz.zeroValue145
 t51 := Tryz.underlying39
 a51 := Tryz.isAgg39
 z51 := Tryz.sizeOf39
 v51 := Tryz.zeroValue39
 t53 := Tryz.underlying214
 a53 := Tryz.isAgg214
 z53 := Tryz.sizeOf214
 v53 := Tryz.zeroValue214 }
theorem Tryz.bits_Len (x : Int) (w : World) (h0 : 0 ≤ x) (h1 : x ≤ 18446744073709551615) :
 Calls Tryz.prog 77 #[.int .u64 x] w fun e w' => e = .returned (.int .i64 (Lib.bitLen x.toNat)) ∧ w' = w := Any.bits_Len Tryz.lays125 x w h0 h1
def Tryz.lays189_ren : Go.Shelf.Ren := ⟨fun | 189 => 36 | 125 => 77 | 257 => 76 | 128 => 135 | 129 => 136 | 294 => 126 | 295 => 127 | 296 => 128 | 297 => 129 | 298 => 130 | 299 => 131 | 216 => 132 | 300 => 133 | 301 => 134 | 328 => 192 | 329 => 193 | 330 => 194 | 331 => 195 | 332 => 196 | 215 => 162 | 343 => 234 | n => n, fun | 28 => 28 | 3 => 3 | 46 => 145 | 0 => 0 | 51 => 39 | 53 => 214 | 4 => 4 | 183 => 205 | 182 => 204 | 131 => 210 | 5 => 5 | 9 => 9 | 218 => 265 | 222 => 269 | 228 => 306 | 229 => 307 | n => n, fun | n => n⟩
theorem Tryz.lays189 : Go.Proofs.Lays.n189 Tryz.prog Tryz.lays189_ren := {
 mixed := by kernel_rfl
 f125 := Tryz.func77.trans (congrArg some (by kernel_rfl))
 f128 := Tryz.func135.trans (congrArg some (by kernel_rfl))
 f129 := Tryz.func136.trans (congrArg some (by kernel_rfl))
 f189 := Tryz.func36.trans (congrArg some (by kernel_rfl))
 f215 := Tryz.func162.trans (congrArg some (by kernel_rfl))
 f216 := Tryz.func132.trans (congrArg some (by kernel_rfl))
 f257 := Tryz.func76.trans (congrArg some (by kernel_rfl))
 f294 := Tryz.func126.trans (congrArg some (by kernel_rfl))
 f295 := Tryz.func127.trans (congrArg some (by kernel_rfl))
 f296 := Tryz.func128.trans (congrArg some (by kernel_rfl))
 f297 := Tryz.func129.trans (congrArg some (by kernel_rfl))
 f298 := Tryz.func130.trans (congrArg some (by kernel_rfl))
 f299 := Tryz.func131.trans (congrArg some (by kernel_rfl))
 f300 := Tryz.func133.trans (congrArg some (by kernel_rfl))
 f301 := Tryz.func134.trans (congrArg some (by kernel_rfl))
 f328 := Tryz.func192.trans (congrArg some (by kernel_rfl))
 f329 := Tryz.func193.trans (congrArg some (by kernel_rfl))
 f330 := Tryz.func194.trans (congrArg some (by kernel_rfl))
 f331 := Tryz.func195.trans (congrArg some (by kernel_rfl))
 f332 := Tryz.func196.trans (congrArg some (by kernel_rfl))
 f343 := Tryz.func234.trans (congrArg some (by kernel_rfl))
 t0 := Tryz.underlying0
 a0 := Tryz.isAgg0
 z0 := Tryz.sizeOf0
 v0 := Tryz.zeroValue0
 t3 := Tryz.underlying3
 a3 := Tryz.isAgg3
 z3 := Tryz.sizeOf3
 v3 := Tryz.zeroValue3
 t4 := Tryz.underlying4
 a4 := Tryz.isAgg4
 z4 := Tryz.sizeOf4
 v4 := Tryz.zeroValue4
 t5 := Tryz.underlying5
 a5 := Tryz.isAgg5
 z5 := Tryz.sizeOf5
 v5 := Tryz.zeroValue5
 t9 := Tryz.underlying9
 a9 := Tryz.isAgg9
 z9 := Tryz.sizeOf9
 v9 := Tryz.zeroValue9
 t28 := Tryz.underlying28
 a28 := Tryz.isAgg28
 z28 := Tryz.sizeOf28
 v28 := Tryz.zeroValue28
 t46 := Tryz.underlying145
 a46 := Tryz.isAgg145
 z46 := Tryz.sizeOf145
 v46 := Tryz.zeroValue145
 t51 := Tryz.underlying39
 a51 := Tryz.isAgg39
 z51 := Tryz.sizeOf39
 v51 := Tryz.zeroValue39
 t53 := Tryz.underlying214
 a53 := Tryz.isAgg214
 z53 := Tryz.sizeOf214
 v53 := Tryz.zeroValue214
 t131 := Tryz.underlying210
 a131 := Tryz.isAgg210
 z131 := Tryz.sizeOf210
 v131 := Tryz.zeroValue210
 t182 := Tryz.underlying204
 a182 := Tryz.isAgg204
 z182 := Tryz.sizeOf204
 v182 := Tryz.zeroValue204
 t183 := Tryz.underlying205
 a183 := Tryz.isAgg205
 z183 := Tryz.sizeOf205
 v183 := Tryz.zeroValue205
 t218 := Tryz.underlying265
 a218 := Tryz.isAgg265
 z218 := Tryz.sizeOf265
 v218 := Tryz.zeroValue265
 t222 := Tryz.underlying269
 a222 := Tryz.isAgg269
 z222 := Tryz.sizeOf269
 v222 := Tryz.zeroValue269
 t228 := Tryz.underlying306
 a228 := Tryz.isAgg306
 z228 := Tryz.sizeOf306
 v228 := Tryz.zeroValue306
 t229 := Tryz.underlying307
 a229 := Tryz.isAgg307
 z229 := Tryz.sizeOf307
 v229 := Tryz.zeroValue307 }
open Go.Sort Go.RowKit in
theorem Tryz.slices_Sort_int (blk off cap : Nat) (zs : List Int) (w : World) (hH : Holds (Value.int .i64) w blk off zs.toArray) (hblk : blk < w.heap.size) (hsz : zs.length < 4611686018427387904) :
 Calls Tryz.prog 36 #[.slice (some ⟨blk, off, none⟩) zs.length cap] w fun e w' =>
  e = .returned (.tuple #[]) ∧ ∃ n os, w' = grow (putRow (Value.int .i64) (Sort.ahead w n) blk off (zs.mergeSort fun x y => decide (x ≤ y)).toArray) os := Any.slices_Sort_int Tryz.lays189 blk off cap zs w hH hblk hsz
def Tryz.laysNm215_ren : Go.Shelf.Ren := ⟨fun | 15 => 189 | n => n, fun | 22 => 28 | 3 => 3 | 4 => 4 | n => n, fun | n => n⟩
theorem Tryz.laysNm215 : Go.Proofs.Lays2.n15 Tryz.prog Tryz.laysNm215_ren := {
 mixed := by kernel_rfl
 f15 := Tryz.func189.trans (congrArg some (by kernel_rfl))
 t3 := Tryz.underlying3
 a3 := Tryz.isAgg3
 z3 := Tryz.sizeOf3
 v3 := Tryz.zeroValue3
 t4 := Tryz.underlying4
 a4 := Tryz.isAgg4
 z4 := Tryz.sizeOf4
 v4 := Tryz.zeroValue4
 t22 := Tryz.underlying28
 a22 := Tryz.isAgg28
 z22 := Tryz.sizeOf28
 v22 := Tryz.zeroValue28
 i3 := by kernel_rfl }
open Go.RowKit Go.Lib in
theorem Tryz.slices_Clone_int (b off n c : Nat) (zs : List Int) (w : World) (hz : n ≤ zs.length) (hbig : n * 8 ≤ 140737488355328) (hc : ∀ j, j < zs.length → w.cell? ⟨b, off + j, none⟩ = some (.int .i64 (zs.getD j 0))) :
 Calls Tryz.prog 189 #[.slice (some ⟨b, off, none⟩) n c] w fun e w' => ∃ v', e = .returned v' ∧ w'.ownsRow w.heap.size 3 1 v' n ((zs.take n).map (Value.int .i64)) ∧ v' ≠ .slice none 0 0 ∧ Below w.heap.size w w' := Any.slices_Clone_int Tryz.laysNm215 b off n c zs w hz hbig hc
open Go.RowKit Go.Lib in
theorem Tryz.slices_Clone_int_nil (n c : Nat) (w : World) :
 Calls Tryz.prog 189 #[.slice none n c] w fun e w' => e = .returned (.slice none 0 0) ∧ w' = w := Any.slices_Clone_int_nil Tryz.laysNm215 n c w
open Go.RowKit Go.Lib in
theorem Tryz.slices_Clone_int_zero (a : Addr) (c : Nat) (w : World) :
 Calls Tryz.prog 189 #[.slice (some a) 0 c] w fun e w' => ∃ v', e = .returned v' ∧ w'.ownsRow w.heap.size 3 1 v' 0 [] ∧ v' ≠ .slice none 0 0 ∧ Below w.heap.size w w' := Any.slices_Clone_int_zero Tryz.laysNm215 a c w
def Tryz.laysNm220_ren : Go.Shelf.Ren := ⟨fun | 20 => 229 | n => n, fun | 22 => 28 | 3 => 3 | 4 => 4 | 0 => 0 | n => n, fun | n => n⟩
theorem Tryz.laysNm220 : Go.Proofs.Lays2.n20 Tryz.prog Tryz.laysNm220_ren := {
 mixed := by kernel_rfl
 f20 := Tryz.func229.trans (congrArg some (by kernel_rfl))
 t0 := Tryz.underlying0
 a0 := Tryz.isAgg0
 z0 := Tryz.sizeOf0
 v0 := Tryz.zeroValue0
 t3 := Tryz.underlying3
 a3 := Tryz.isAgg3
 z3 := Tryz.sizeOf3
 v3 := Tryz.zeroValue3
 t4 := Tryz.underlying4
 a4 := Tryz.isAgg4
 z4 := Tryz.sizeOf4
 v4 := Tryz.zeroValue4
 t22 := Tryz.underlying28
 a22 := Tryz.isAgg28
 z22 := Tryz.sizeOf28
 v22 := Tryz.zeroValue28
 i3 := by kernel_rfl }
open Go.RowKit Go.Lib Go.Sort in
theorem Tryz.slices_Compact_int (blk off cap : Nat) (zs : List Int) (w : World) (hH : Holds (Value.int .i64) w blk off zs.toArray) (hsz : zs.length ≤ 9223372036854775807) (hcap : zs.length ≤ cap) :
 Calls Tryz.prog 229 #[.slice (some ⟨blk, off, none⟩) zs.length cap] w fun e w' => e = .returned (.slice (some ⟨blk, off, none⟩) (Lib.compact zs).length cap) ∧ ∃ q, w' = putRow (Value.int .i64) (Sort.ahead w q) blk off (Lib.compact zs ++ List.replicate (zs.length - (Lib.compact zs).length) 0).toArray := Any.slices_Compact_int Tryz.laysNm220 blk off cap zs w hH hsz hcap
open Go.RowKit Go.Lib Go.Sort in
theorem Tryz.slices_Compact_int_empty (a : Option Addr) (cap : Nat) (w : World) :
 Calls Tryz.prog 229 #[.slice a 0 cap] w fun e w' => e = .returned (.slice a 0 cap) ∧ w' = w := Any.slices_Compact_int_empty Tryz.laysNm220 a cap w
open Go.RowKit Go.Sort in
theorem Tryz.slices_Sort_int_none (p : Option Addr) (cap : Nat) (w : World) :
 Calls Tryz.prog 36 #[.slice p 0 cap] w fun e w' => e = .returned (.tuple #[]) ∧ w' = w := Any.slices_Sort_int_none Tryz.lays189 p cap w
end Go.Proofs
namespace Go.Ab
open Go Go.Proofs Go.RowKit
set_option maxRecDepth 10000
def rvOf (p : Option Addr) (cap : Nat) : Option Nat → Value
 | none => .tuple #[]
 | some m => .slice p m cap
def yvOf (k : Nat) : Option Nat → EV
 | none => .tup []
 | some m => .arr 1 k 0 m
theorem FzOk.kept {fz : Fz} {w w' : World} (h : FzOk fz w) (hk : Kept (fun _ => False) w w') : FzOk fz w' := fun b o v hz => by
 have h1 := h b o v hz
 rw [pk_congr (hk.block b (pk_lt h1) (fun h => h))]
 exact h1
theorem FzStep.same (N : Nat) (fz : Fz) : FzStep N fz fz := ⟨FzLe.refl _, fun _ _ => rfl⟩
theorem EFun.ints {P : Program} {f : FuncId} (k0 : Nat) (hc : callable P f) {t : TypeId} {xs ys : List Int} (hl : ys.length = xs.length) (res : Option Nat) (hm : ∀ m, res = some m → m ≤ xs.length)
 (hcall : ∀ (b cap : Nat) (w : World) (cur : List Value), w.heap[b]? = some (.cells cur.toArray t (0, 0)) → cur.take xs.length = xs.map (Value.int .i64) → xs.length ≤ cap → cap ≤ cur.length → xs ≠ [] →
  Calls P f #[.slice (some ⟨b, 0, none⟩) xs.length cap] w fun e w' => e = .returned (rvOf (some ⟨b, 0, none⟩) cap res) ∧ Kept (fun _ => False) (w.setRow b (ys.map (Value.int .i64) ++ cur.drop xs.length).toArray) w')
 (h0 : xs = [] → ∀ (p : Option Addr) (cap : Nat) (w : World), Calls P f #[.slice p 0 cap] w fun e w' => e = .returned (rvOf p cap res) ∧ w' = w) :
 EFun P f [.arr 1 k0 0 xs.length] [(k0, .box t ((xs.map eI).map .p))] (yvOf k0 res) [(k0, .box t ((ys.map eI).map .p))] := by
 refine ⟨hc, fun g w vs hi hlen hr => ?_⟩
 obtain ⟨v, rfl⟩ : ∃ v, vs = [v] := by
  match vs, hlen with
  | [v], _ => exact ⟨v, rfl⟩
 have hv := hr 0 v _ rfl rfl
 have hk : hp [(k0, AObj.box t ((xs.map eI).map .p))] k0 = .box t ((xs.map eI).map .p) := by rw [hp_cons, if_pos rfl]
 have hob := hi.obj k0
 rw [hk] at hob
 by_cases he : xs = []
 · subst he
   obtain rfl : ys = [] := List.length_eq_zero_iff.1 hl
   cases hv with
   | arr p sz k off n cap hcap hn hne ho =>
    refine (h0 rfl p cap w).mono ?_
    rintro e w' ⟨rfl, rfl⟩
    refine ⟨_, g, rfl, GLe.refl _ _, hi, Fr.start g _ _ 0 [] none, ?_⟩
    cases res with
    | none => exact .tup [] [] rfl (by intro i v x h; simp at h)
    | some m =>
     have := hm m rfl
     obtain rfl : m = 0 := by simpa using this
     exact .arr p 1 k0 0 0 cap hcap hn hne ho
 · have hpos : 0 < xs.length := List.length_pos_iff.2 he
   cases hv with
   | arr p sz k off n cap hcap hn hne ho =>
    rcases ho with ho | ⟨t', cs', ho, hle, hp2⟩
    · rw [hk] at ho; cases ho
    · rw [hk] at ho
      cases ho
      rcases hp2 with ⟨hlt, rfl, hcl⟩ | ⟨hz, rfl⟩
      · obtain ⟨cur, hh, ⟨hv1, hv2⟩, ho1, hre, hfz⟩ := hob.2 hlt
        have hv2' : xs.length ≤ cur.length := by simpa using hv2
        have htk : cur.take xs.length = xs.map (Value.int .i64) := by
         refine List.ext_getElem? fun j => ?_
         by_cases hj : j < xs.length
         · have h3 : j < cur.length := by omega
           have h4 := hre j cur[j] (.p (eI xs[j])) (List.getElem?_eq_getElem h3) (by simp [hj])
           rw [List.getElem?_take_of_lt hj, List.getElem?_eq_getElem h3, List.getElem?_map, List.getElem?_eq_getElem hj]
           generalize cur[j] = v at h4
           cases h4 with
           | p _ _ h4 => cases h4 with
            | imm _ _ => rfl
         · rw [List.getElem?_eq_none (by simp; omega), List.getElem?_eq_none (by simp; omega)]
        have hone : Ones (ys.map (Value.int .i64) ++ cur.drop xs.length) := by
         intro v hv
         rcases List.mem_append.1 hv with hv | hv
         · obtain ⟨x, _, rfl⟩ := List.mem_map.1 hv; rfl
         · exact ho1 v (List.mem_of_mem_drop hv)
        refine (hcall (g.blk k0) cap w cur hh htk hcap (by omega) he).mono ?_
        rintro e w' ⟨rfl, hkp⟩
        have hW := hi.setBox (cs' := (ys.map eI).map .p) hk hlt (by simp [hl]) (vs := ys.map (Value.int .i64) ++ cur.drop xs.length) (by simp; omega) hone fun i v x hv hx => ?_
        · have hF := (Fr.start g _ w 0 [] none).setBox (cs' := (ys.map eI).map .p) hk hlt (by simp [hl]) (ys.map (Value.int .i64) ++ cur.drop xs.length).toArray
          have hC := hW.call hkp (FzStep.same _ _) (FzOk.kept hW.fz hkp)
          have hup : upd (hp [(k0, AObj.box t ((xs.map eI).map .p))]) k0 (.box t ((ys.map eI).map .p)) = hp [(k0, .box t ((ys.map eI).map .p))] := by
           funext k
           by_cases h : k = k0
           · subst h; rw [upd_same, hp_cons, if_pos rfl]
           · rw [upd_ne h, hp_cons, hp_cons, if_neg h, if_neg h]
          rw [hup] at hW hF hC
          have hle := GLe.of_box (g := g) (cs' := (ys.map eI).map .p) hk (by simp [hl])
          rw [hup] at hle
          refine ⟨_, g, rfl, hle, hC.1, hF.call hkp (FzStep.same _ _), ?_⟩
          cases res with
          | none => exact .tup [] [] rfl (by intro i v x h; simp at h)
          | some m =>
           have := hm m rfl
           exact .arr _ 1 k0 0 m cap (by omega) (by omega) (fun _ => ⟨_, rfl⟩) (.inr ⟨t, _, by rw [hp_cons, if_pos rfl], by simp; omega, .inl ⟨hlt, rfl, hcl⟩⟩)
        · rw [List.getElem?_map, List.getElem?_map] at hx
          cases hy : ys[i]? with
          | none => rw [hy] at hx; simp at hx
          | some z =>
           rw [hy] at hx
           simp only [Option.map_some, Option.some.injEq] at hx
           subst hx
           have hi2 := (List.getElem?_eq_some_iff.1 hy).1
           rw [List.getElem?_append_left (by simpa using hi2), List.getElem?_map, hy] at hv
           simp only [Option.map_some, Option.some.injEq] at hv
           subst hv
           exact .p _ _ (.imm _ rfl)
      · omega
theorem heap_putRow {w : World} {g n : Nat} {os : Array Obj} {cur : List Value} {e : TypeId} (xs ys : List Int) (hl : ys.length = xs.length) (hle : xs.length ≤ cur.length) (hb : w.heap[g]? = some (.cells cur.toArray e (0, 0))) :
 Kept (fun _ => False) (w.setRow g (ys.map (Value.int .i64) ++ cur.drop xs.length).toArray) (Sort.grow (Sort.putRow (Value.int .i64) (Sort.ahead w n) g 0 ys.toArray) os) := by
 have hg : g < w.heap.size := (Array.getElem?_eq_some_iff.1 hb).1
 have harr : Sort.putCells (Value.int .i64) 0 ys.toArray cur.toArray = (ys.map (Value.int .i64) ++ cur.drop xs.length).toArray := by
  refine Array.ext_getElem? fun j => ?_
  by_cases hj : j < ys.length
  · simp [Sort.putCells, hj, show j < cur.length by omega]
    rw [List.getElem?_append_left (by simpa using hj)]; simp [hj]
  · by_cases hj2 : j < cur.length
    · simp [Sort.putCells, hj, hj2, List.getElem?_append_right, show ys.length ≤ j by omega, show xs.length + (j - ys.length) = j by omega]
    · simp [Sort.putCells, hj, hj2, List.getElem?_append_right, show ys.length ≤ j by omega, show xs.length + (j - ys.length) = j by omega]
 refine ⟨rfl, rfl, rfl, by simp [Sort.grow, Sort.putRow, Sort.mapBlock, Sort.ahead], fun k hk _ => ?_⟩
 have hk' : k < w.heap.size := by simpa using hk
 rw [Sort.heap_grow_old _ _ (by simpa using hk')]
 by_cases e : k = g
 · subst e
   rw [setRow_heap _ _ _ _ _ _ hb]
   simp [Sort.putRow, Sort.mapBlock, Sort.ahead, Array.getElem?_modify, hb, Sort.onCells, harr]
 · rw [setRow_other _ _ _ _ e]
   simp [Sort.putRow, Sort.mapBlock, Sort.ahead, Array.getElem?_modify, Ne.symm e]
theorem holds_row {w : World} {g : Nat} {cur : List Value} {e : TypeId} {ss : List Int} (hb : w.heap[g]? = some (.cells cur.toArray e (0, 0))) (ht : cur.take ss.length = ss.map (Value.int .i64)) : Sort.Holds (Value.int .i64) w g 0 ss.toArray := by
 intro j hj
 have hj' : j < ss.length := by simpa using hj
 refine ⟨?_, by simp [World.frozen?, hb]⟩
 have h1 : (cur.take ss.length)[j]? = (ss.map (Value.int .i64))[j]? := by rw [ht]
 rw [List.getElem?_take_of_lt hj'] at h1
 simp only [World.cell?, hb, Nat.zero_add]
 simp only [Option.isSome_none, Bool.false_eq_true, if_false]
 rw [← Array.getElem?_toList, h1]
 simp [hj']
def sortI (l : List Int) : List Int := l.mergeSort fun x y => decide (x ≤ y)
theorem sortE (k : Nat) (xs : List Int) (hx : xs.length ≤ 1000000000) : EFun Tryz.prog 36 [.arr 1 k 0 xs.length] [(k, .box 3 ((xs.map eI).map .p))] (.tup []) [(k, .box 3 (((sortI xs).map eI).map .p))] := by
 have hl : (sortI xs).length = xs.length := List.length_mergeSort xs
 refine EFun.ints k ⟨_, Tryz.func36, rfl, rfl⟩ hl none (by nofun) (fun b cap w cur hb ht hcap hcl he => ?_) fun he p cap w => ?_
 · refine (Tryz.slices_Sort_int b 0 cap xs w (holds_row hb ht) (Array.getElem?_eq_some_iff.1 hb).1 (by omega)).mono ?_
   rintro e w' ⟨rfl, n, os, rfl⟩
   exact ⟨rfl, heap_putRow xs (sortI xs) hl (by omega) hb⟩
 · refine (Tryz.slices_Sort_int_none p cap w).mono ?_
   rintro e w' ⟨rfl, rfl⟩
   exact ⟨rfl, rfl⟩
theorem compactE (k : Nat) (xs : List Int) (hx : xs.length ≤ 1000000000) : EFun Tryz.prog 229 [.arr 1 k 0 xs.length] [(k, .box 3 ((xs.map eI).map .p))] (.arr 1 k 0 (Lib.compact xs).length) [(k, .box 3 (((Lib.compact xs ++ List.replicate (xs.length - (Lib.compact xs).length) 0).map eI).map .p))] := by
 have hcl := Lib.compact_length_le xs
 have hl : (Lib.compact xs ++ List.replicate (xs.length - (Lib.compact xs).length) 0).length = xs.length := by simp; omega
 refine EFun.ints k ⟨_, Tryz.func229, rfl, rfl⟩ hl (some (Lib.compact xs).length) (fun m h => by cases h; exact hcl) (fun b cap w cur hb ht hcap hcl he => ?_) fun he p cap w => ?_
 · refine (Tryz.slices_Compact_int b 0 cap xs w (holds_row hb ht) (by omega) hcap).mono ?_
   rintro e w' ⟨rfl, n, rfl⟩
   refine ⟨rfl, ?_⟩
   have := heap_putRow (n := n) (os := #[]) xs _ hl (by omega) hb
   rw [Sort.grow_empty] at this
   exact this
 · subst he
   refine (Tryz.slices_Compact_int_empty p cap w).mono ?_
   rintro e w' ⟨rfl, rfl⟩
   exact ⟨rfl, rfl⟩
theorem okH_one (h0 : AHp) (k : Nat) (t : TypeId) (l : List AV) : okH h0 [(k, .box t (l.map .p))] = true := by
 simp only [okH, okL_p, Bool.and_self]
def srt (xs : List Int) : List Int := Lib.compact (sortI xs)
def srtC (xs : List Int) : List Int := srt xs ++ List.replicate (xs.length - (srt xs).length) 0
theorem sortedE (a : Int) (xs : List Int) (hx : xs.length ≤ 1000000000) : EFun Tryz.prog 178 [.p (eI a), .arr 1 9000 0 xs.length] [(9000, .box 3 ((xs.map eI).map .p))] (.agg [.p (eI a), .arr 1 9000 0 (srt xs).length]) [(9000, .box 3 (((srtC xs).map eI).map .p))] := by
 have hl : (sortI xs).length = xs.length := List.length_mergeSort xs
 have hc := compactE 9000 (sortI xs) (by omega)
 rw [hl] at hc
 refine EFun.of hT Tryz.func178 rfl rfl (by simp) rfl (AD.run hT hmix ?_)
 refine .eff [(9000, .box 3 ((xs.map eI).map .p))] [(9000, .box 3 (((sortI xs).map eI).map .p))] _ (sortE 9000 xs hx) ⟨rfl, trivial⟩ rfl rfl (okH_one _ _ _ _) rfl ?_
 refine .eff [(9000, .box 3 (((sortI xs).map eI).map .p))] [(9000, .box 3 (((srtC xs).map eI).map .p))] _ hc ⟨rfl, trivial⟩ rfl rfl (okH_one _ _ _ _) rfl ?_
 exact ⟨_, [.agg [.p (eI a), .arr 1 9000 0 (srt xs).length]], _, rfl, .of, rfl, rfl, rfl⟩
end Go.Ab
namespace Go.Ab
open Go Go.Proofs Go.RowKit
theorem info_int : (Tryz.prog.info? 3).map (fun i => (i.zero, i.size, i.bytes)) = some (some (.int .i64 0), 1, 8) := by kernel_rfl
theorem firstCells_zero (p : Option Addr) (size : Nat) (w : World) : (Builtin.firstCells size 0 (.slice p 0 0)).run Tryz.prog w = .ok ([] : List Value).toArray w := by
 cases p with
 | none => exact run_firstCells_none w size 0 0 0
 | some b => exact run_firstCells_some w size 0 b 0 0 [] (by simp) (by simp)
def GrowRes (w : World) (e : Ending) (w' : World) : Prop := ∃ q cap, e = .returned (.slice q 0 cap) ∧ Below w.heap.size w w' ∧ (cap = 0 ∨ ∃ (b : Nat) (vs : List Value), q = some ⟨b, 0, none⟩ ∧ w.heap.size ≤ b ∧ w'.heap[b]? = some (.cells vs.toArray 3 (0, 0)) ∧ 0 < vs.length ∧ cap ≤ vs.length ∧ Ones vs)
set_option maxRecDepth 100000 in
set_option maxHeartbeats 2000000 in
theorem grow_p (p : Option Addr) (n : Nat) (w : World) (hn : n ≤ 40000) :
 Calls Tryz.prog 230 #[.slice p 0 0, .int .i64 n] w fun e w' => GrowRes w e w' := by
 by_cases h0 : n = 0
 · subst h0
   go_enter Tryz.func230, Tryz.ntmps230
   go_wp2_with fail
   go_ret
   exact ⟨_, _, rfl, Below.refl _ _, .inl rfl⟩
 · obtain ⟨i0, hi0, hz0, hz1, hz2⟩ := info_parts info_int
   have h1 : ¬ ((n : Int) < 0) := by omega
   have h4 : (n : Int) > 0 := by omega
   have h48 : n * i0.bytes ≤ 281474976710656 := by rw [hz2]; omega
   have hfit : Builtin.nextslicecap (0 + n) 0 * i0.bytes ≤ 281474976710656 := by
    refine growslice_fits (by omega) ?_
    rw [hz2]; omega
   have hrz : ∀ ty, (Builtin.append_ #[28, 3] ty #[.slice p 0 0, .int .i64 (n : Int)]).run Tryz.prog w = .ok (.slice (some ⟨w.heap.size, 0, none⟩) n (grownCap w n 0 3)) (w.drew.alloc (.cells (([] : List Value).toArray ++ Builtin.zeroCells (Value.int .i64 0).cells n ++ Builtin.zeroCells (Value.int .i64 0).cells (grownCap w n 0 3 - n)) 3)) := fun ty => by
    have h := Lib.run_append_grow_zeros w 28 3 ty 3 i0 _ .i64 .i64 Tryz.underlying28 Tryz.underlying3 hi0 hz0 p 0 0 [] (firstCells_zero p i0.size w.drew) n (by omega) (by rw [hz1]; decide) (by omega) (by omega) h48 hfit
    simp only [Nat.zero_add] at h
    exact h
   have hG := grownCap_ge w n 0 3
   have hG2 := grownCap_le_maxLen w n 0 3 (by unfold maxLen; omega)
   obtain ⟨G, hGe⟩ : ∃ G, G = grownCap w n 0 3 := ⟨_, rfl⟩
   rw [← hGe] at hrz hG hG2
   have hG63 : G ≤ 9223372036854775807 := by unfold maxLen at hG2; omega
   obtain ⟨cur, hcur⟩ : ∃ c : List Value, c = List.replicate G (.int .i64 0) := ⟨_, rfl⟩
   have hcc : (([] : List Value).toArray ++ Builtin.zeroCells (Value.int .i64 0).cells n ++ Builtin.zeroCells (Value.int .i64 0).cells (G - n)) = cur.toArray := by
    rw [hcur]
    refine Array.ext' ?_
    simp only [Builtin.zeroCells, Value.cells]
    refine List.eq_replicate_iff.2 ⟨by simp; omega, fun b hb => ?_⟩
    simp at hb
    rcases hb with ⟨_, _, h⟩ | ⟨_, _, h⟩ <;> rw [← h] <;> simp [Nat.mod_one]
   have hcs : cur.length = G := by rw [hcur]; simp
   have hone : Ones cur := fun v hv => by
    rw [hcur] at hv
    rw [List.eq_of_mem_replicate hv]; rfl
   rw [hcc] at hrz
   clear hi0 hz0 hz1 hz2 hfit hGe hcur h48 i0 hcc
   have hfin : GrowRes w (.returned (.slice (some ⟨w.heap.size, 0, none⟩) 0 G)) (w.alloc (.cells cur.toArray 3)).drew :=
    ⟨_, _, rfl, by go_grown, .inr ⟨_, cur, rfl, Nat.le_refl _, (show (w.alloc (.cells cur.toArray 3)).heap[w.heap.size]? = _ from by unfold World.alloc; simp), by omega, by omega, hone⟩⟩
   go_enter Tryz.func230, Tryz.ntmps230
   go_wp2_with (at_builtin; refine Lib.wpList_append_run _ rfl _ _ _ _ rfl _ _ rfl rfl _ _ (hrz _) ?_)
   all_goals go_ret
   all_goals exact hfin
theorem growE (n : Nat) (hn : n ≤ 40000) : EFun Tryz.prog 230 [.full 1 [], .p (eI n)] [] (.arr 1 9000 0 0) [(9000, .box 3 (([] : List AV).map .p))] := by
 refine ⟨⟨_, Tryz.func230, rfl, rfl⟩, fun g w vs hi hl hr => ?_⟩
 obtain ⟨v1, v2, rfl⟩ : ∃ v1 v2, vs = [v1, v2] := by
  match vs, hl with
  | [a, b], _ => exact ⟨a, b, rfl⟩
 have r1 := hr 0 v1 _ rfl rfl
 have r2 := hr 1 v2 _ rfl rfl
 obtain rfl : v2 = .int .i64 n := by
  cases r2 with
  | p _ _ h => cases h with
   | imm _ _ => rfl
 obtain ⟨p, rfl⟩ : ∃ p, v1 = .slice p 0 0 := by
  cases r1 with
  | full p m sz es h => cases h with
   | slice => rename_i hm0 _; obtain rfl : m = 0 := hm0; exact ⟨p, rfl⟩
 refine (grow_p p n w hn).mono ?_
 rintro e w' ⟨q, cap, rfl, hB, hc⟩
 have hkp := Kept.of_below hB
 have hC := hi.call hkp (FzStep.same _ _) (FzOk.kept hi.fz hkp)
 have hF := (Fr.start g (hp []) w 0 [] none).call hkp (FzStep.same _ _)
 have hg : (hp [] : Hp) 9000 = .gone := rfl
 have hup : ∀ o, upd (hp []) 9000 o = hp [(9000, o)] := fun o => by
  funext k
  by_cases h : k = 9000
  · subst h; rw [upd_same]; rfl
  · rw [upd_ne h, hp_cons, if_neg h]
 rcases hc with rfl | ⟨b, vs, rfl, hb, hh, hpos, hcap, hone⟩
 · have h1 := hC.1.add hg (o := .box 3 (([] : List AV).map .p)) (B := 0) (L := 0) (M := 0) ⟨fun _ => rfl, fun h0 => by rw [Gh.name_hi] at h0; omega⟩ (fun b hb => by have h := hb.1; rw [Gh.name_hi] at h; omega)
   have h2 := hF.add hg (o := .box 3 (([] : List AV).map .p)) (B := 0) (L := 0) (M := 0) (fun b hb => by have h := hb.1; rw [Gh.name_hi] at h; omega)
   have h3 := hC.2.trans (GLe.name hg (.box 3 (([] : List AV).map .p)) 0 0 0)
   rw [hup] at h1 h2 h3
   exact ⟨_, _, rfl, h3, h1, h2, .arr q 1 9000 0 0 0 (Nat.le_refl _) (by omega) (fun h => absurd rfl h) (.inr ⟨_, _, rfl, Nat.le_refl _, .inr ⟨Gh.name_hi _ _ _ _ _, rfl⟩⟩)⟩
 · have hi2 : WInv { g with fz := g.fz } (hp []) w' := hC.1
   have hfzn : ∀ o, g.fz b o = none := fun o => by
    cases hz : g.fz b o with
    | none => rfl
    | some v => have := hi.fz_lt hz; omega
   have h1 := hi2.add hg (o := .box 3 (([] : List AV).map .p)) (B := b) (L := 0) (M := vs.length) ⟨fun _ => rfl, fun _ => ⟨vs, by rw [Gh.name_blk]; exact hh, ⟨by rw [Gh.name_hi], by simp⟩, hone, fun i v x hv hx => by simp at hx, fun o => by rw [Gh.name_blk]; exact hfzn o⟩⟩ (fun b' hb' j hj => by exact hj)
   have h2 := hF.add hg (o := .box 3 (([] : List AV).map .p)) (B := b) (L := 0) (M := vs.length) (fun b' hb' => .inr (by have := hb'.2; rw [Gh.name_blk] at this; subst this; exact hb))
   have h3 := hC.2.trans (GLe.name hg (.box 3 (([] : List AV).map .p)) b 0 vs.length)
   rw [hup] at h1 h2 h3
   exact ⟨_, _, rfl, h3, h1, h2, .arr _ 1 9000 0 0 cap (Nat.zero_le _) (by omega) (fun _ => ⟨_, rfl⟩) (.inr ⟨_, _, rfl, Nat.zero_le _, .inl ⟨by rw [Gh.name_hi]; exact hpos, by rw [Gh.name_blk], by rw [Gh.name_hi]; omega⟩⟩)⟩
theorem compactUp (d : Array Int) (hs : ∀ i j, i ≤ j → j < d.size → d[i]! ≤ d[j]!) : ∀ m, m ≤ d.size → Up (Lib.compactUpTo d m) ∧ ∀ x, x ∈ Lib.compactUpTo d m ↔ ∃ j, j < m ∧ d[j]! = x
 | 0, _ => ⟨List.Pairwise.nil, fun x => ⟨fun h => by simp [Lib.compactUpTo] at h, fun ⟨j, h, _⟩ => by omega⟩⟩
 | m + 1, hm => by
  obtain ⟨h1, h2⟩ := compactUp d hs m (by omega)
  rw [Lib.compactUpTo_succ]
  by_cases hk : Lib.keeps d m = true
  · rw [if_pos hk]
    have hlt : ∀ x ∈ Lib.compactUpTo d m, x < d[m]! := fun x hx => by
     obtain ⟨j, hj, rfl⟩ := (h2 x).1 hx
     have hne : d[m]! ≠ d[m - 1]! := by
      unfold Lib.keeps at hk
      rcases of_decide_eq_true hk with e | e
      · omega
      · exact e
     have a1 := hs j (m - 1) (by omega) (by omega)
     have a2 := hs (m - 1) m (by omega) (by omega)
     omega
    refine ⟨List.pairwise_append.2 ⟨h1, List.pairwise_singleton _ _, fun x hx y hy => by rw [List.mem_singleton.1 hy]; exact hlt x hx⟩, fun x => ?_⟩
    rw [List.mem_append, h2, List.mem_singleton]
    constructor
    · rintro (⟨j, hj, e⟩ | e)
      · exact ⟨j, by omega, e⟩
      · exact ⟨m, by omega, e.symm⟩
    · rintro ⟨j, hj, e⟩
      by_cases hjm : j = m
      · subst hjm; exact .inr e.symm
      · exact .inl ⟨j, by omega, e⟩
  · rw [if_neg hk, List.append_nil]
    refine ⟨h1, fun x => ?_⟩
    rw [h2]
    constructor
    · rintro ⟨j, hj, e⟩; exact ⟨j, by omega, e⟩
    · rintro ⟨j, hj, e⟩
      by_cases hjm : j = m
      · subst hjm
        have hne : ¬ (j = 0 ∨ d[j]! ≠ d[j - 1]!) := by unfold Lib.keeps at hk; simpa using hk
        exact ⟨j - 1, by omega, by rw [← e]; exact (Classical.byContradiction fun h => hne (.inr fun e' => h e'.symm))⟩
      · exact ⟨j, by omega, e⟩
theorem srt_ok (l : List Int) : Up (srt l) ∧ ∀ x, x ∈ srt l ↔ x ∈ l := by
 obtain ⟨m, hm⟩ : ∃ m, sortI l = m := ⟨_, rfl⟩
 have hp : m.Pairwise (fun x y => decide (x ≤ y) = true) := by
  rw [← hm]; exact List.pairwise_mergeSort (fun a b c h1 h2 => by simp at *; omega) (fun a b => by simp; omega) l
 have hmem : ∀ x, x ∈ m ↔ x ∈ l := fun x => by rw [← hm]; exact List.mem_mergeSort
 have hs : ∀ i j, i ≤ j → j < m.toArray.size → m.toArray[i]! ≤ m.toArray[j]! := fun i j hij hj => by
  have hj' : j < m.length := by simpa using hj
  have hi' : i < m.length := by omega
  rcases Nat.lt_or_eq_of_le hij with h | rfl
  · have := List.pairwise_iff_getElem.1 hp i j hi' hj' h
    simpa [getElem!_pos, hi', hj'] using this
  · exact Int.le_refl _
 obtain ⟨h1, h2⟩ := compactUp m.toArray hs m.length (by simp)
 unfold srt Lib.compact
 rw [hm]
 refine ⟨h1, fun x => ?_⟩
 rw [h2, ← hmem]
 constructor
 · rintro ⟨j, hj, e⟩
   rw [← e]; simp [getElem!_pos, hj]
 · intro h
   obtain ⟨j, hj, e⟩ := List.getElem_of_mem h
   exact ⟨j, hj, by simp [getElem!_pos, hj, e]⟩
theorem srt_cl {l : List Int} {S : Int → Prop} (h : ∀ x, x ∈ l ↔ (0 ≤ x ∧ x < 2000) ∧ S x) : srt l = cl S := cl_eq (srt_ok l).1 fun x => ((srt_ok l).2 x).trans (h x)
end Go.Ab
