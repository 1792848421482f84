import Derived.Test.YtadilppdlbhjnaaGC
import Derived.OrdersIn
import Derived.RangeFuncCalls
namespace Go.Proofs.Ytadilppdlbhjnaa
set_option linter.unusedSimpArgs false
set_option linter.unusedVariables false
section
variable {P : Program} {ops : Array Oper} {Q : Exit → Act → World → Prop} {md : Region.Mode}
def noDefer (ops : Array Oper) : Bool := ops.toList.all fun o => match o.op with | .defer _ => false | _ => true
theorem noDefer_spec (h : noDefer ops = true) {i : Nat} {o : Oper} (ho : ops[i]? = some o) : ∀ c, o.op ≠ .defer c := by
 intro c hc
 unfold noDefer at h
 rw [List.all_eq_true] at h
 have := h o (by rw [Array.mem_toList_iff]; exact Array.mem_of_getElem? ho)
 rw [hc] at this; cases this
def onlyN (Q : Exit → Act → World → Prop) (e : Exit) (a : Act) (w : World) : Prop := match e with | .normal => Q .normal a w | _ => False
theorem onlyN_out : ¬ LetsOut (onlyN Q) := by rintro ⟨a, w, h⟩; exact h
theorem rowsIn_round {l n : Nat} {row : String} {args : Array Value} {w : World} {R : Value → World → Prop} (h : Rows P row args w R) : RowsIn (Fence.wide.inRound l) n P row args w R := by
 intro c cs _
 obtain ⟨v, w', r, s⟩ := h c cs
 exact ⟨v, w', r, stepsIn_wide.2 s⟩
theorem wpOpIn_of {l n i : Nat} (hd : noDefer ops = true) {K K' : Act → World → Prop} (hK : ∀ a w, K a w → K' a w) {a : Act} {w : World} (h : wpOp P ops (onlyN Q) i K a w) : wpOpIn (Fence.wide.inRound l) n P ops Q i K' a w := by
 unfold wpOp at h
 unfold wpOpIn
 cases ho : ops[i]? with
 | none => rw [ho] at h; exact hK _ _ h
 | some o =>
  rw [ho] at h
  dsimp only at h ⊢
  split
  · rename_i hw
    rw [if_pos hw] at h
    rcases h with h | ⟨_, h⟩
    · refine ⟨fun _ _ => trivial, ?_⟩
      rw [Oper.semAt_eq _ _ _ (noDefer_spec hd ho)]
      unfold Oper.wp at h
      generalize (execOp a.eval o).run P w = r at *
      cases r with
      | ok x w' =>
       cases x <;> simp only [Oper.upon] at h <;> simp only [Oper.uponIn]
       case value u => exact hK _ _ h
       case skip => exact hK _ _ h
       case defer d => exact hK _ _ h
       case enter f args =>
        refine ⟨fun h0 => (by simp [Fence.wide] at h0), CallsIn.inRound l (callsIn_wide.2 (Calls.mono h fun e w'' he => ?_))⟩
        cases e with
        | returned u => exact hK _ _ he
        | panicked c => exact he.elim
        | outgrown => exact (onlyN_out he).elim
       case row row args => exact ⟨fun h0 => (by simp [Fence.wide] at h0), rowsIn_round (Rows.mono h fun v w'' he => hK _ _ he)⟩
      | halt x w' => cases x <;> simp only [Oper.upon] at h <;> first | exact h.elim | cases h
    · exact (onlyN_out h).elim
  · rename_i hw
    rw [if_neg hw] at h
    exact ⟨fun _ _ => trivial, hK _ _ h⟩
theorem wpAnyIn_of {l n : Nat} (hd : noDefer ops = true) : ∀ (fuel : Nat) (listed : Array Bool) (a : Act) (w : World), wpAny P md ops (onlyN Q) fuel listed a w → wpAnyIn (Fence.wide.inRound l) n P md ops Q fuel listed a w
 | 0, listed, a, w, h => h
 | fuel + 1, listed, a, w, h => ⟨h.1, fun i hi => wpOpIn_of hd (fun a w h => wpAnyIn_of hd fuel _ a w h) (h.2 i hi)⟩
theorem wpIn_region_seqM {id l n0 : Nat} {a : Act} {w : World} (S : Nat → World → Prop) (movers : List Nat) (hm : P.follows .mixedOrders = true) (hd : noDefer ops = true) (hok' : fastOk .any ops = true) (hch : chained .any ops movers = true) (hS : S 0 w.drew)
 (h : SeqM P ops S movers.length (fun k => movers.contains k) (fun a => ∀ w, S movers.length w → Q .normal a w) ops.toList 0 0 a) : (Code.region id ops true).wpIn (Fence.wide.inRound l) n0 P Q a w := by
 have hok := textOk_of hok'
 refine wpIn_region_any hm (wpAnyIn_of hd _ _ _ _ ?_)
 have hc := certM_of_seq (l := ops.size) (Q := onlyN Q) hok (.inl rfl) (fun n a hn hf w hS => by
  obtain rfl : n = 0 := by omega
  refine ⟨?_, hf w hS⟩
  cases hr : Region.ready .any ops (pre ops.size ops.size) with
  | nil => rfl
  | cons j t =>
   exfalso
   have hj : j ∈ Region.ready .any ops (pre ops.size ops.size) := by rw [hr]; exact List.mem_cons_self
   obtain ⟨h0, o, ho, _⟩ := mem_ready.1 hj
   have hlt := (Array.getElem?_eq_some_iff.1 ho).1
   rw [pre_getD _ hlt] at h0; simp at h0; omega) ops.toList 0 0 a (by rw [← Array.length_toList, List.take_length, List.drop_zero]) (by omega) h
 rw [pre_zero, Nat.sub_self, Nat.add_zero, Array.length_toList] at hc
 have hsel : ∀ (j : Nat) (o : Oper) cs b, ops[j]? = some o → o.op ≠ .select cs b := by
  unfold textOk at hok; rw [Bool.and_eq_true] at hok; exact Region.noSelect_spec hok.1
 exact CertM.sound hsel (fun listed hcl i j hi hj h1 h2 => chained_excl hcl movers hch i (by simpa using h1) j (by simpa using h2) hi hj)
  (fun listed _ h => by obtain ⟨_, o, ho, _⟩ := mem_ready.1 h; have := (Array.getElem?_eq_some_iff.1 ho).1; omega) _ _ _ _ hc (closed_none _ rfl) w.drew hS
end
end Go.Proofs.Ytadilppdlbhjnaa
