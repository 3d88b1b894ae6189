/-
  append, as one step of a region that draws its order. No function of the program is named here.
-/
import Derived.Deep.RegionLaw
import Derived.Deep.RegionHeld3
import Derived.Test.YtijpdeanbkodkaaLib
namespace Go.Proofs.Ytijpdeanbkodkaa
open Go.RowKit

theorem step_append {P : Program} {ops : Array Oper} {o : Oper} {a : Act} {w : World} {K : Act → World → Prop} {Q : Exit → Act → World → Prop} {Ex : Prop}
    (hgd : o.guard = none) (s x : Operand) (t : TypeId) (ho : o.op = .call { callee := .builtin .append, args := #[s, x], argTypes := #[t, t] })
    {e : TypeId} {zs : List Value} {bytes : Nat} (E : Elem P t e zs bytes) (v : Value) (n : Nat) (xs : List Value) (hs : a.eval s = v) (hown : Sl w e zs.length v n xs)
    (so : Option Addr) (m c : Nat) (news : List Value) (hx : a.eval x = .slice so m c) (hl : news.length = m * zs.length) (hnews : 0 < m → ∃ ad, so = some ad ∧ ∀ j u, news[j]? = some u → w.cell? (ad.add j) = some u) (h1 : ∀ u ∈ news, u.oneCell' = true)
    (h63 : n + m ≤ maxLen) (hbytes : (n + m) * bytes ≤ 140737488355328) (hso : so = none → c = 0)
    (h : ∀ v' w', Sl w' e zs.length v' (n + m) (xs ++ news) → Kp (fun b => v.ownBlock = some b) w w' → Moved w v v' → K (a.put o.dst v') w') :
    if Region.wanted o (yielded ops a.tmps) = true then Oper.wp P o a w K Q else Ex := by
  have hw : Region.wanted o (yielded ops a.tmps) = true := by simp [Region.wanted, hgd]
  rw [if_pos hw]
  obtain ⟨v', w', hr, h2, h3, h4, _⟩ := run_append (P := P) w o.type E v n xs hown so m c news hl hnews h1 h63 hbytes hso
  unfold Oper.wp execOp
  simp only [ho, resolve, invoke, builtin, Sem.run_bind, Sem.run_pure, Result.andThen_ok, List.map_toArray, List.map_cons, List.map_nil, hs, hx, hr]
  exact h _ _ h2 h3 h4
end Go.Proofs.Ytijpdeanbkodkaa
