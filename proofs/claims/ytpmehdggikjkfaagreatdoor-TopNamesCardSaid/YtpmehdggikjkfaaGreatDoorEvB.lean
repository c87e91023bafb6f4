/- The evaluator, its second part: regions that ask the tape for their order, control, functions: definitions alone. -/
import Derived.Test.YtpmehdggikjkfaaGreatDoorEv
namespace Go.Proofs.YtpmehdggikjkfaaGreatDoor.Rf
open Go
mutual
/- the same value, bit for bit -/
def same : Value → Value → Bool
  | .bool a, .bool b => a == b
  | .int k a, .int k' b => decide (k = k') && ieq a b
  | .float k a, .float k' b => decide (k = k') && Nat.beq a b
  | .complex k a b, .complex k' c d => decide (k = k') && (Nat.beq a c && Nat.beq b d)
  | .string a, .string b => u8Eq a.data.toList b.data.toList
  | .pointer none, .pointer none => true
  | .pointer (some a), .pointer (some b) => decide (a = b)
  | .slice none n c, .slice none m d => Nat.beq n m && Nat.beq c d
  | .slice (some a) n c, .slice (some b) m d => decide (a = b) && (Nat.beq n m && Nat.beq c d)
  | .map none, .map none => true
  | .map (some a), .map (some b) => Nat.beq a b
  | .nilIface, .nilIface => true
  | .nilFunc, .nilFunc => true
  | .iface t v, .iface u w => Nat.beq t u && same v w
  | .func (.func f) ⟨a⟩ ⟨b⟩, .func (.func g) ⟨c⟩ ⟨d⟩ => Nat.beq f g && (sameL a c && sameL b d)
  | .agg ⟨a⟩, .agg ⟨b⟩ => sameL a b
  | .tuple ⟨a⟩, .tuple ⟨b⟩ => sameL a b
  | _, _ => false
def sameL : List Value → List Value → Bool
  | [], [] => true
  | a :: r, b :: q => same a b && sameL r q
  | _, _ => false
end
/- an operation of a region: its number, what must come before it (a row of bits) -/
structure It where
  i : Nat
  o : Oper
  b : Nat
noncomputable def isChain (E : Env) (o : Oper) : Bool :=
  match kind E o.op with
  | .eff | .call => true
  | _ => false
noncomputable def edges (m : T Nat) : List Edge → Nat → Nat
  | [], a => a
  | e :: r, a => match Region.binds .any e with
    | true => edges m r (a ||| (2 ^ e.on ||| (match m.find e.on with | some b => b | none => 0)))
    | false => edges m r a
noncomputable def itemsFrom : List Oper → Nat → T Nat → List It
  | [], _, _ => []
  | o :: r, i, m => ⟨i, o, edges m o.after.toList 0⟩ :: itemsFrom r (i + 1) (m.ins i (some (edges m o.after.toList 0)))
def countIn (b : Nat) : List Nat → Nat
  | [] => 0
  | c :: r => match Nat.testBit b c with
    | true => countIn b r + 1
    | false => countIn b r
def insK (k : Nat) (x : It) : List (Nat × It) → List (Nat × It)
  | [] => [(k, x)]
  | (n, y) :: r => match Nat.blt k n with
    | true => (k, x) :: (n, y) :: r
    | false => (n, y) :: insK k x r
/- 'cs': the numbers of the chain's operations so far -/
noncomputable def sortK (E : Env) : List It → List Nat → List (Nat × It) → List (Nat × It)
  | [], _, acc => acc
  | x :: r, cs, acc => match isChain E x.o with
    | true => sortK E r (x.i :: cs) (insK (2 * cs.length + 1) x acc)
    | false => sortK E r cs (insK (2 * countIn x.b cs) x acc)
def snds : List (Nat × It) → List It
  | [] => []
  | (_, x) :: r => x :: snds r
noncomputable def ordOf (E : Env) (ops : List Oper) : List It := snds (sortK E (itemsFrom ops 0 .nil) [] [])
structure Pn where
  j : It
  tm : TM
  v : Value
noncomputable def stable (E : Env) (s : S) (b : Nat) : List Pn → Bool
  | [] => true
  | p :: r => match Nat.testBit b p.j.i with
    | true => stable E s b r
    | false => match evLook E p.j.o p.tm s with
      | some v => match same v p.v with
        | true => stable E s b r
        | false => false
      | none => false
noncomputable def storeAt : Oper → TM → Option Nat
  | ⟨_, .store _ a _, _, _, _, none⟩, tm => match evalO tm a with
    | .pointer (some ad) => some ad.block
    | _ => none
  | _, _ => none
noncomputable def twoStores (j : It) (tm : TM) : List It → Bool
  | [z] => match Nat.testBit z.b j.i with
    | true => true
    | false => match storeAt j.o tm, storeAt z.o tm with
      | some a, some b => match Nat.beq a b with
        | true => false
        | false => true
      | _, _ => false
  | _ => true
noncomputable def evD (E : Env) (F : FF) (ops : List Oper) : List It → TM → S → List Pn → Option (TM × S)
  | [], tm, s, _ => some (tm, s)
  | j :: r, tm, s, pd => match wanted j.o ops tm with
    | false => evD E F ops r (put tm j.o.dst undef) s pd
    | true => match kind E j.o.op with
      | .pure => match evLook E j.o tm s with
        | some v => evD E F ops r (put tm j.o.dst v) s pd
        | none => none
      | .look => match evLook E j.o tm s with
        | some v => evD E F ops r (put tm j.o.dst v) s (⟨j, tm, v⟩ :: pd)
        | none => none
      | .alloc => match evAlloc E j.o tm with
        | some (m, v) => evD E F ops r (put tm j.o.dst (v.at s.n)) (newB s m) pd
        | none => none
      | .eff => match twoStores j tm r with
        | true => match evEff E j.o tm s with
          | some (v, s) => match stable E s j.b pd with
            | true => evD E F ops r (put tm j.o.dst v) s pd
            | false => none
          | none => none
        | false => none
      | .call => match evCall j.o tm with
        | some (f, args) => match F f args s with
          | some (v, s) => match stable E s j.b pd with
            | true => evD E F ops r (put tm j.o.dst v) s pd
            | false => none
          | none => none
        | none => none
      | .bad => none
/- what a region that draws must be, for this to be right whatever the order -/
def names (ops : List Oper) (o : Oper) : List Tmp :=
  (o.op.operands.toList.filterMap fun | .tmp t => some t | _ => none) ++
  (match o.guard with
   | some (g, _) => ((ops[g]?).bind (·.dst)).toList
   | none => [])
def pairOk (ops : List Oper) (k j : It) : Bool :=
  Nat.blt k.i ops.length && !(Nat.beq k.i j.i) &&
  (match k.o.dst with
   | some d => (j.o.dst != some d) && (!((names ops j.o).contains d) || Nat.testBit j.b k.i)
   | none => true) &&
  (match j.o.dst with
   | some d => !((names ops k.o).contains d) || Nat.testBit j.b k.i
   | none => true)
def isStore (o : Oper) : Bool :=
  match o with
  | ⟨_, .store .., _, _, _, none⟩ => true
  | _ => false
noncomputable def isPure (E : Env) (o : Oper) : Bool :=
  match kind E o.op with
  | .pure => true
  | _ => false
/- 'pre': those ahead, the latest first -/
noncomputable def laterOk (E : Env) (ops : List Oper) : List It → List It → Bool
  | _, [] => true
  | pre, j :: r =>
    (pre.all fun k => pairOk ops k j) &&
    (j.o.after.toList.all fun e => !(Region.binds .any e) || pre.any fun k => Nat.beq k.i e.on) &&
    ((pre.all fun k => !(isChain E k.o) || Nat.testBit j.b k.i) ||
      (match pre, r with
       | y :: q, [] => isStore y.o && isStore j.o &&
          (q.all fun k => (!(isChain E k.o) || Nat.testBit j.b k.i) && (isPure E k.o || (Nat.testBit j.b k.i && Nat.testBit y.b k.i)))
       | _, _ => false)) &&
    laterOk E ops (j :: pre) r
noncomputable def regOk (E : Env) (ops : List Oper) : Bool :=
  Nat.beq (ordOf E ops).length ops.length && laterOk E ops [] (ordOf E ops) &&
  ops.all fun o => match o.op with | .select .. => false | _ => true
/- what a constant may be -/
def plain1 : Value → Bool
  | .bool _ | .int .. | .float .. | .complex .. | .string _ | .nilIface | .nilFunc => true
  | .pointer none | .map none => true
  | .slice none _ c => Nat.blt c lim
  | _ => false
def plainV : Value → Bool
  | .tuple ⟨l⟩ => l.isEmpty
  | .agg ⟨l⟩ => l.all plain1
  | v => plain1 v
def operandOk (ng : Nat) : Operand → Bool
  | .const v => plainV v
  | .global g => Nat.blt g ng
  | _ => true
def operOk (ng nt : Nat) (o : Oper) : Bool :=
  o.op.operands.toList.all (operandOk ng) && (match o.dst with | some d => Nat.blt d nt | none => true)
noncomputable def codeOk (E : Env) (nt : Nat) : Code → Bool
  | .skip | .label _ | .exit _ | .ret => true
  | .region _ ops dr => ops.toList.all (operOk E.ng nt) && (!dr || (Nat.beq ops.size 33 || regOk E ops.toList))
  | .seq x y => codeOk E nt x && codeOk E nt y
  | .cond c x y => operandOk E.ng c && (codeOk E nt x && codeOk E nt y)
  | .block _ c | .scope c | .loop c => codeOk E nt c
  | _ => true
noncomputable def evC (E : Env) (F : FF) (L : Code → TM → S → Option (Ex × TM × S)) : Code → TM → S → Option (Ex × TM × S)
  | .skip, tm, s => some (.normal, tm, s)
  | .label _, tm, s => some (.normal, tm, s)
  | .region _ ops dr, tm, s => match dr with
    | false => match evOps E F ops.toList ops.toList tm s with
      | some (tm, s) => some (.normal, tm, s)
      | none => none
    | true => match Nat.beq ops.size 33 with
      | true => none
      | false => match evD E F ops.toList (ordOf E ops.toList) tm s [] with
        | some (tm, s) => some (.normal, tm, s)
        | none => none
  | .seq x y, tm, s => match evC E F L x tm s with
    | some (.normal, tm, s) => evC E F L y tm s
    | r => r
  | .cond c x y, tm, s => match evalO tm c with
    | .bool true => evC E F L x tm s
    | .bool false => evC E F L y tm s
    | _ => none
  | .block i c, tm, s => match evC E F L c tm s with
    | some (.exit j, tm, s) => match Nat.beq j i with
      | true => some (.normal, tm, s)
      | false => some (.exit j, tm, s)
    | r => r
  | .scope c, tm, s => evC E F L c tm s
  | .loop c, tm, s => match evC E F L c tm s with
    | some (.normal, tm, s) => L c tm s
    | r => r
  | .exit i, tm, s => some (.exit i, tm, s)
  | .ret, tm, s => some (.ret, tm, s)
  | _, _, _ => none
noncomputable def evL (E : Env) (F : FF) : Nat → Code → TM → S → Option (Ex × TM × S)
  | 0, _, _, _ => none
  | n + 1, c, tm, s => match evC E F (evL E F n) c tm s with
    | some (.normal, tm, s) => evL E F n c tm s
    | r => r
noncomputable def resL (E : Env) (tm : TM) (s : S) : List ResultVar → Option (List Value)
  | [] => some []
  | .tmp t :: r => match resL E tm s r with
    | some l => some (evalO tm (.tmp t) :: l)
    | none => none
  | .cell a t :: r => match evalO tm (.tmp a), E.tys.find t with
    | .pointer (some ad), some ti => match (match isAgg ti.desc with
        | true => match loadN s ad ti.cells with
          | some l => some (Value.agg ⟨l⟩)
          | none => none
        | false => match loadN s ad 1 with
          | some [v] => some v
          | _ => none) with
      | some v => match resL E tm s r with
        | some q => some (v :: q)
        | none => none
      | none => none
    | _, _ => none
noncomputable def res (E : Env) (fn : Func) (tm : TM) (s : S) : Option (Value × S) :=
  match resL E tm s fn.results.toList with
  | some [v] => some (v, s)
  | some l => some (.tuple ⟨l⟩, s)
  | none => none
/- 'G': functions whose answer is given -/
noncomputable def evF (E : Env) (G : FuncId → List Value → S → Option (Option (Value × S))) : Nat → FF
  | 0, _, _, _ => none
  | n + 1, f, args, s => match G f args s with
    | some r => r
    | none => match E.fns.find f with
      | some fn => match fn.body with
        | some c => match evC E (evF E G n) (evL E (evF E G n) 1000) c (T.ofList args 0 .nil) s with
          | some (.normal, tm, s) => res E fn tm s
          | some (.ret, tm, s) => res E fn tm s
          | _ => none
        | none => none
      | none => none
def tyOf (P : Program) (t : TypeId) : Option TI :=
  match P.info? t, P.underlying t with
  | some i, some d => some ⟨d, i.size, i.bytes, i.zero⟩
  | _, _ => none
noncomputable def tysOf (P : Program) : List Nat → T TI → T TI
  | [], m => m
  | t :: r, m => tysOf P r (m.ins t (tyOf P t))
noncomputable def envOf (P : Program) : Env := ⟨tysOf P (List.range P.types.size) .nil, (T.ofList P.funcs.toList 0 .nil).ins 206 none, P.globals.size⟩
end Go.Proofs.YtpmehdggikjkfaaGreatDoor.Rf
