/- Abstract values and contracts of calls of the program: a part of the logic in which the claim is proved; it states nothing of the program by itself. -/
import Derived.Test.YtineemehkodlmaaDoorT13
set_option linter.all false
namespace Go.Mc

/-- a body is walked until the next call, branch, loop or draw -/
def AX (E : Prg) (f : FuncId) (m : Nat) (rs : List ResultVar) (Q : List Blk → Res → Prop) : Nat → List Item → List Blk → List AV → Prop
  | 0, k, H, ts => AM E f m k H ts Q
  | n + 1, .code .skip :: k, H, ts => AX E f m rs Q n k H ts
  | n + 1, .code (.label _) :: k, H, ts => AX E f m rs Q n k H ts
  | n + 1, .code (.seq a b) :: k, H, ts => AX E f m rs Q n (.code a :: .code b :: k) H ts
  | n + 1, .code (.region _ ops false) :: k, H, ts => AX E f m rs Q n (.inRegion ops (List.range ops.size) :: k) H ts
  | _ + 1, .code (.cond c x y) :: k, H, ts => match ev E ts c with
    | .v (.bool t) => (t = true → AM E f m (.code x :: k) H ts Q) ∧ (t = false → AM E f m (.code y :: k) H ts Q)
    | _ => False
  | n + 1, .code (.block id c) :: k, H, ts => AX E f m rs Q n (.code c :: .inBlock id :: k) H ts
  | n + 1, .code (.exit id) :: k, H, ts => match exitTo id k with
    | some k' => AX E f m rs Q n k' H ts
    | none => False
  | _ + 1, .code .ret :: _, H, ts => match Rets E H ts rs with
    | some (p, l) => p ∧ Q H (.ret (oneOf l))
    | none => False
  | _ + 1, [], H, ts => match Rets E H ts rs with
    | some (p, l) => p ∧ Q H (.ret (oneOf l))
    | none => False
  | n + 1, .inBlock _ :: k, H, ts => AX E f m rs Q n k H ts
  | n + 1, .inRegion _ [] :: k, H, ts => AX E f m rs Q n k H ts
  | n + 1, .inRegion ops (i :: rest) :: k, H, ts => match ops[i]? with
    | none => False
    | some o => match gdOf ops ts o.guard with
      | none => AM E f m (.inRegion ops (i :: rest) :: k) H ts Q
      | some g => (g = true → match sop E H ts o.op with
          | some (p, H', r) => p ∧ AX E f m rs Q n (.inRegion ops rest :: k) H' (putT ts o.dst r)
          | none => match calleeOf E ts o.op with
            | some (c, avs) => ACalls E c avs H (fun H' r => match r with | .ret a => AM E f m (.inRegion ops rest :: k) H' (putT ts o.dst a) Q | .pan a => Q H' (.pan a))
            | none => AM E f m (.inRegion ops (i :: rest) :: k) H ts Q) ∧ (g = false → AX E f m rs Q n (.inRegion ops rest :: k) H (putT ts o.dst .undef))
  | _ + 1, k, H, ts => AM E f m k H ts Q

theorem AX.sound {E : Prg} {f : FuncId} {m : Nat} {rs : List ResultVar} {Q : List Blk → Res → Prop} {fn : Func} (hf : E.P.funcs[f]? = some fn) (hrs : fn.results.toList = rs) :
    ∀ (n : Nat) {k : List Item} {H : List Blk} {ts : List AV}, AX E f m rs Q n k H ts → AM E f m k H ts Q := by
  intro n
  induction n with
  | zero => intro k H ts h; simpa only [AX] using h
  | succ n ih =>
    intro k H ts h
    match k with
    | .code .skip :: k => simp only [AX] at h; exact .skip (ih h)
    | .code (.label _) :: k => simp only [AX] at h; exact .label (ih h)
    | .code (.seq a b) :: k => simp only [AX] at h; exact .seq (ih h)
    | .code (.region _ ops false) :: k => simp only [AX] at h; exact .region (ih h)
    | .code (.region _ ops true) :: k => simp only [AX] at h; exact h
    | .code (.cond c x y) :: k =>
      simp only [AX] at h
      split at h
      · rename_i t e; exact .cond e h.1 h.2
      · exact h.elim
    | .code (.block id c) :: k => simp only [AX] at h; exact .block (ih h)
    | .code (.exit id) :: k =>
      simp only [AX] at h
      split at h
      · rename_i e; exact .exit e (ih h)
      · exact h.elim
    | .code .ret :: k =>
      simp only [AX] at h
      split at h
      · rename_i p l e; exact (AM.ret hf (by rw [hrs]; exact e) h.1 h.2).1
      · exact h.elim
    | [] =>
      simp only [AX] at h
      split at h
      · rename_i p l e; exact (AM.ret (k := []) hf (by rw [hrs]; exact e) h.1 h.2).2
      · exact h.elim
    | .inBlock _ :: k => simp only [AX] at h; exact .inBlock (ih h)
    | .inRegion ops [] :: k => simp only [AX] at h; exact .regionEnd (ih h)
    | .inRegion ops (i :: rest) :: k =>
      simp only [AX] at h
      split at h
      · exact h.elim
      · rename_i o ho
        split at h
        · exact h
        · rename_i g hg
          cases g with
          | true =>
            have h := h.1 rfl
            split at h
            · rename_i p H' r e; exact .op ho hg e h.1 (ih h.2)
            · split at h
              · rename_i e; exact .call ho hg e h
              · exact h
          | false => exact .opSkip ho hg (ih (h.2 rfl))
    | .code (.loop _) :: k => simpa only [AX] using h
    | .code (.rangeFunc _ _ _ _) :: k => simpa only [AX] using h
    | .code (.scope _) :: k => simpa only [AX] using h
    | .code (.goto _) :: k => simpa only [AX] using h
    | .code (.refuse _) :: k => simpa only [AX] using h
    | .inLoop _ :: k => simpa only [AX] using h
    | .inScope _ :: k => simpa only [AX] using h
    | .inRangeFunc _ :: k | .endRangeFunc _ :: k | .beginRound :: k | .call _ _ _ _ :: k | .extern _ _ :: k => simpa only [AX] using h
end Go.Mc
