import Derived.Test.YtjilebpcaemopaaGreatDoorAbsK
namespace Go.Abs
open Go
def okF (fn:Func) (n:Nat) (keep:List (Nat×List Nat)):Bool:=
 fn.body.isSome&&(!(fn.name== "runtime.NumGoroutine")&&(Nat.ble n fn.ntmps&&codeOk (eW keep) fn.ntmps (fn.body.getD .skip)))
theorem evF {P:Program} {f:FuncId} {fn:Func} {args:List AV} {σ:ah} {k kp:AV→ah→Prop} {F:Prop} (hmix:P.follows .mixedOrders=true) (hf:P.funcs[f]?=some fn) (keep:List (Nat×List Nat)) (hok:okF fn args.length keep=true)
 (he:aw P (eW keep) (fn.body.getD .skip) (retK P fn.results.toList k kp) (dj 0 args) σ=F) (h:F):Ev P f args σ k kp:=by
 unfold okF at hok
 simp only[Bool.and_eq_true,Bool.not_eq_true']at hok
 obtain⟨h1,h2,h3,h4⟩:=hok
 obtain⟨body,hb⟩:=Option.isSome_iff_exists.1 h1
 rw[hb]at h4 he
 exact xS hmix hf hb h2 (Nat.le_of_ble_eq_true h3) (eW keep) h4 (by rw[←he]at h;exact h)
end Go.Abs
