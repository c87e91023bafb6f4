/- The evaluator, made for the kernel: each arm a function of its own, dispatchers whose arms are closed terms. (Printed by fast.py.) -/
import Derived.Test.YtpmehdggikjkfaaGreatDoorGiv
namespace Go.Proofs.YtpmehdggikjkfaaGreatDoor.Rf
open Go
noncomputable def lkmove (x : Operand) (_E : Env) (tm : TM) (_s : S) : Option Value := some (evalO tm x)
noncomputable def lkassign (x : Operand) (_E : Env) (tm : TM) (_s : S) : Option Value := some (evalO tm x)
noncomputable def lkpick (c : Operand) (a : Operand) (b : Operand) (_E : Env) (tm : TM) (_s : S) : Option Value := match evalO tm c with
    | .bool true => some (evalO tm a)
    | .bool false => some (evalO tm b)
    | _ => none
noncomputable def lkbuild (t : TypeId) (ps : Array (Nat × Operand)) (E : Env) (tm : TM) (_s : S) : Option Value := match E.tys.find t with
    | some ti => match zeroL ti with
      | some z => match ti.desc with
        | .struct fs => match sizesOk E fs.toList with
          | true => match partsS E tm fs ps.toList z with
            | some l => some (.agg ⟨l⟩)
            | none => none
          | false => none
        | .array _ e => match E.tys.find e with
          | some te => match partsA tm te.cells ps.toList z with
            | some l => some (.agg ⟨l⟩)
            | none => none
          | none => none
        | _ => none
      | none => none
    | none => none
noncomputable def lkload (t : TypeId) (a : Operand) (E : Env) (tm : TM) (s : S) : Option Value := match evalO tm a with
    | .pointer (some ad) => match E.tys.find t with
      | some ti => match isAgg ti.desc with
        | true => match loadN s ad ti.cells with
          | some l => some (.agg ⟨l⟩)
          | none => none
        | false => match loadN s ad 1 with
          | some [v] => some v
          | _ => none
      | none => none
    | _ => none
noncomputable def lknilCheck (x : Operand) (_E : Env) (tm : TM) (_s : S) : Option Value := match evalO tm x with
    | .pointer (some a) => some (.pointer (some a))
    | .func (.func f) a b => some (.func (.func f) a b)
    | .slice a n c => some (.slice a n c)
    | _ => none
noncomputable def lkbinOp (op : BinOp) (t : TypeId) (x : Operand) (y : Operand) (_ : TypeId) (E : Env) (tm : TM) (_s : S) : Option Value := bin E op t x y (evalO tm x) (evalO tm y)
noncomputable def lkunOp (op : UnOp) (_ : TypeId) (x : Operand) (_E : Env) (tm : TM) (_s : S) : Option Value := match op, evalO tm x with
    | .not, .bool b => some (.bool (!b))
    | .neg, .int k n => some (.int k (wr k (0 - n)))
    | .xor, .int k n => intOp .xor k (allOnes k) n
    | _, _ => none
noncomputable def lkconvert (src : TypeId) (dst : TypeId) (x : Operand) (E : Env) (tm : TM) (s : S) : Option Value := match E.tys.find src, E.tys.find dst with
    | some ts, some ti => match ti.desc, evalO tm x with
      | .int k, .int _ n => some (.int k (wr k n))
      | .string, .string b => some (.string b)
      | .string, .int _ (.ofNat n) => match Nat.blt n 128 with
        | true => some (.string ⟨⟨[UInt8.ofNat n]⟩⟩)
        | false => none
      | .string, .slice a n _ => match ts.desc with
        | .slice e => match E.tys.find e with
          | some te => match te.desc with
            | .int .u8 => match a with
              | none => some (.string ⟨⟨[]⟩⟩)
              | some a => match loadN s a n with
                | some l => match byteL l with
                  | some q => some (.string ⟨⟨q⟩⟩)
                  | none => none
                | none => none
            | _ => none
          | none => none
        | _ => none
      | _, _ => none
    | _, _ => none
noncomputable def lkmakeInterface (t : TypeId) (x : Operand) (E : Env) (tm : TM) (_s : S) : Option Value := match E.tys.find t with
    | some ti => match ti.desc with
      | .interface _ => none
      | _ => some (.iface t (evalO tm x))
    | none => none
noncomputable def lkmakeFunc (fn : Fn) (first : Array Operand) (cap : Array Operand) (_E : Env) (tm : TM) (_s : S) : Option Value := match fn with
    | .func f => some (.func (.func f) ⟨first.toList.map (evalO tm)⟩ ⟨cap.toList.map (evalO tm)⟩)
    | _ => none
noncomputable def lkslice (t : TypeId) (x : Operand) (lo : Option Operand) (hi : Option Operand) (mx : Option Operand) (E : Env) (tm : TM) (_s : S) : Option Value := match E.tys.find t with
    | some ti => match ti.desc, evalO tm x with
      | .string, .string b => match mx with
        | none => match obnd tm 0 lo, obnd tm b.data.toList.length hi with
          | some l, some h => match Nat.ble l h && Nat.ble h b.data.toList.length with
            | true => some (.string ⟨⟨(b.data.toList.take h).drop l⟩⟩)
            | false => none
          | _, _ => none
        | some _ => none
      | .slice e, .slice a n c => match E.tys.find e with
        | some te => match obnd tm 0 lo, obnd tm n hi with
          | some l, some h => match mx with
            | some y => match hi, natOf (evalO tm y) with
              | some _, some m => match Nat.ble l h && (Nat.ble h m && (Nat.ble m c && ((Nat.ble m n && (Nat.blt 0 n && Nat.blt m lim)) || Nat.blt c lim))) with
                | true => some (.slice (match Nat.beq m l with | true => a | false => a.map (·.add (l * te.cells))) (h - l) (m - l))
                | false => none
              | _, _ => none
            | none => match Nat.blt c lim with
              | true => match Nat.ble l h && Nat.ble h c with
                | true => some (.slice (match Nat.beq c l with | true => a | false => a.map (·.add (l * te.cells))) (h - l) (c - l))
                | false => none
              | false => match Nat.ble l h && (Nat.ble h n && Nat.ble l (c - lim)) with
                | true => some (.slice (a.map (·.add (l * te.cells))) (h - l) (c - l))
                | false => none
          | _, _ => none
        | none => none
      | .array n e, .pointer (some a) => match E.tys.find e with
        | some te => match obnd tm 0 lo, obnd tm n hi, mx with
          | some l, some h, none => match Nat.ble l h && (Nat.ble h n && Nat.blt n lim) with
            | true => some (.slice (some (match Nat.beq n l with | true => a | false => a.add (l * te.cells))) (h - l) (n - l))
            | false => none
          | _, _, _ => none
        | none => none
      | _, _ => none
    | none => none
noncomputable def lkfieldAddr (t : TypeId) (x : Operand) (i : Nat) (E : Env) (tm : TM) (_s : S) : Option Value := match E.tys.find t, evalO tm x with
    | some ti, .pointer (some a) => match ti.desc with
      | .struct fs => match fs[i]? with
        | some f => match E.tys.find f.type with
          | some tf => match Nat.beq tf.cells 0 with
            | true => none
            | false => some (.pointer (some (a.add f.offset)))
          | none => none
        | none => none
      | _ => none
    | _, _ => none
noncomputable def lkfield (t : TypeId) (x : Operand) (i : Nat) (E : Env) (tm : TM) (_s : S) : Option Value := match E.tys.find t, evalO tm x with
    | some ti, .agg ⟨l⟩ => match ti.desc with
      | .struct fs => match fs[i]? with
        | some f => partOf E f.type l f.offset
        | none => none
      | _ => none
    | _, _ => none
noncomputable def lkindexAddr (t : TypeId) (x : Operand) (i : Operand) (E : Env) (tm : TM) (_s : S) : Option Value := match E.tys.find t, natOf (evalO tm i) with
    | some ti, some n => match ti.desc, evalO tm x with
      | .slice e, .slice (some a) len _ => match E.tys.find e with
        | some te => match Nat.blt n len with
          | true => some (.pointer (some (a.add (n * te.cells))))
          | false => none
        | none => none
      | .array len e, .pointer (some a) => match E.tys.find e with
        | some te => match Nat.blt n len with
          | true => some (.pointer (some (a.add (n * te.cells))))
          | false => none
        | none => none
      | _, _ => none
    | _, _ => none
noncomputable def lkindex (t : TypeId) (x : Operand) (i : Operand) (E : Env) (tm : TM) (_s : S) : Option Value := match E.tys.find t, natOf (evalO tm i) with
    | some ti, some n => match ti.desc, evalO tm x with
      | .string, .string b => match b.data.toList[n]? with
        | some c => some (.int .u8 c.toNat)
        | none => none
      | .array len e, .agg ⟨l⟩ => match E.tys.find e with
        | some te => match Nat.blt n len with
          | true => partOf E e l (n * te.cells)
          | false => none
        | none => none
      | _, _ => none
    | _, _ => none
noncomputable def lklookup (t : TypeId) (x : Operand) (k : Operand) (ok : Bool) (E : Env) (tm : TM) (s : S) : Option Value := match E.tys.find t, evalO tm x, evalO tm k with
    | some ti, .map (some m), .string key => match s.h.find m with
      | some (.map ks) => match ti.desc with
        | .map kt e => match E.tys.find kt, E.tys.find e, ok with
          | some tk, some te, true => match tk.desc with
            | .string => match ks.any (fun x => match x.1 with | .string q => u8Eq q.data.toList key.data.toList | _ => true) with
              | true => none
              | false => match te.zero with
                | some z => some (.tuple #[z, .bool false])
                | none => none
            | _ => none
          | _, _, _ => none
        | _ => none
      | _ => none
    | _, _, _ => none
noncomputable def lkextract (x : Operand) (i : Nat) (_E : Env) (tm : TM) (_s : S) : Option Value := match evalO tm x with
    | .tuple ⟨l⟩ => l[i]?
    | _ => none
noncomputable def lkcall (c : Call) (E : Env) (tm : TM) (s : S) : Option Value := match c.callee, c.args.toList, c.argTypes.toList with
    | .builtin .len, [x], t :: _ => match E.tys.find t with
      | some ti => match ti.desc, evalO tm x with
        | .string, .string b => some (.int .i64 (b.data.toList.length : Int))
        | .array n _, _ => some (.int .i64 (n : Int))
        | .slice _, .slice _ n _ => some (.int .i64 (n : Int))
        | .map _ _, .map none => some (.int .i64 0)
        | .map _ _, .map (some m) => match s.h.find m with
          | some (.map ks) => some (.int .i64 (ks.length : Int))
          | _ => none
        | .pointer p, _ => match E.tys.find p with
          | some tp => match tp.desc with
            | .array n _ => some (.int .i64 (n : Int))
            | _ => none
          | none => none
        | _, _ => none
      | none => none
    | .builtin .cap, [x], t :: _ => match E.tys.find t with
      | some ti => match ti.desc, evalO tm x with
        | .slice _, .slice _ _ n => match Nat.blt n lim with
          | true => some (.int .i64 (n : Int))
          | false => none
        | _, _ => none
      | none => none
    | .builtin .min, [x, y], _ => match evalO tm x, evalO tm y with
      | .int k a, .int _ b => some (.int k (match ile a b with | true => a | false => b))
      | _, _ => none
    | .builtin .max, [x, y], _ => match evalO tm x, evalO tm y with
      | .int k a, .int _ b => some (.int k (match ile b a with | true => a | false => b))
      | _, _ => none
    | _, _, _ => none
noncomputable def alalloc (t : TypeId) (E : Env) (_tm : TM) : Option (MO × AV) := match E.tys.find t with
    | some ti => match zeroL ti with
      | some z => some (mkRow z none, .ptr)
      | none => none
    | none => none
noncomputable def albox (_ : TypeId) (x : Operand) (_E : Env) (tm : TM) : Option (MO × AV) := some (mkRow (asL (evalO tm x)) none, .ptr)
noncomputable def albuildSlice (t : TypeId) (n : Nat) (ps : Array (Nat × Operand)) (E : Env) (tm : TM) : Option (MO × AV) := match E.tys.find t with
    | some ti => match ti.desc with
      | .slice e => match E.tys.find e with
        | some te => match zeroL te with
          | some z => match Nat.beq z.length te.cells && (Nat.ble (n * te.cells) 16777216 && Nat.blt n lim) with
            | true => match partsA tm te.cells ps.toList (rep z n) with
              | some l => some (mkRow l none, .slice n n)
              | none => none
            | false => none
          | none => none
        | none => none
      | _ => none
    | none => none
noncomputable def almakeSlice (t : TypeId) (l : Operand) (c : Operand) (E : Env) (tm : TM) : Option (MO × AV) := match E.tys.find t, natOf (evalO tm l), natOf (evalO tm c) with
    | some ti, some n, some m => match ti.desc with
      | .slice e => match E.tys.find e with
        | some te => match zeroL te with
          | some z => match Nat.beq z.length te.cells && (Nat.ble n m && (Nat.ble (te.bytes * m) 281474976710656 && Nat.blt m 281474976710656)) with
            | true => some (mkRow (rep z m) none, .slice n m)
            | false => none
          | none => none
        | none => none
      | _ => none
    | _, _, _ => none
noncomputable def almakeMap (_ : TypeId) (r : Option Operand) (_E : Env) (_tm : TM) : Option (MO × AV) := match r with
    | none => some (.map [], .map)
    | some _ => none
noncomputable def alconvert (src : TypeId) (dst : TypeId) (x : Operand) (E : Env) (tm : TM) : Option (MO × AV) := match E.tys.find src, E.tys.find dst with
    | some ts, some ti => match ts.desc, ti.desc, evalO tm x with
      | .string, .slice e, .string b => match E.tys.find e with
        | some te => match te.desc with
          | .int .u8 => some (mkRow (bytesL b.data.toList) (some 1), .slice b.data.toList.length big)
          | _ => none
        | none => none
      | _, _, _ => none
    | _, _ => none
noncomputable def efstore (t : TypeId) (a : Operand) (x : Operand) (E : Env) (tm : TM) (s : S) : Option (Value × S) := match evalO tm a, E.tys.find t with
    | .pointer (some ad), some ti => match Nat.beq (asL (evalO tm x)).length ti.cells with
      | true => match storeN E s ad.block ad.off (asL (evalO tm x)) with
        | some s => some (undef, s)
        | none => none
      | false => none
    | _, _ => none
noncomputable def efconvert (src : TypeId) (dst : TypeId) (x : Operand) (E : Env) (tm : TM) (s : S) : Option (Value × S) := match Nat.beq src dst, elemTI E dst, evalO tm x with
    | true, some te, .slice (some a) n c => match te.desc, Nat.ble E.ng a.block, s.h.find a.block with
      | .int .u8, true, some (.row _ _) => some (.slice (some a) n c, s)
      | _, _, _ => none
    | _, _, _ => none
noncomputable def efmapUpdate (t : TypeId) (x : Operand) (k : Operand) (v : Operand) (E : Env) (tm : TM) (s : S) : Option (Value × S) := match E.tys.find t, evalO tm x, evalO tm k with
    | some ti, .map (some m), .string key => match s.h.find m with
      | some (.map ks) => match ti.desc with
        | .map kt _ => match E.tys.find kt with
          | some tk => match tk.desc with
            | .string => match Nat.ble E.ng m && !(ks.any (fun x => match x.1 with | .string q => u8Eq q.data.toList key.data.toList | _ => true)) with
              | false => none
              | true => some (undef, { s with h := s.h.ins m (some (.map (ks ++ [(.string key, evalO tm v)]))) })
            | _ => none
          | none => none
        | _ => none
      | _ => none
    | _, _, _ => none
noncomputable def efcall (c : Call) (E : Env) (tm : TM) (s : S) : Option (Value × S) := match c.callee, c.args.toList, c.argTypes.toList with
    | .builtin .append, [x, y], t :: tx => match elemTI E t with
      | some te => match appended E te s tx.head? (evalO tm y) with
        | some (m, new) => evAppend E te s (evalO tm x) m new
        | none => evAppZ E te s tx.head? (evalO tm x) (evalO tm y)
      | none => none
    | .builtin .copy, [x, y], t :: _ => match elemTI E t with
      | some te => match evalO tm x, lenV (evalO tm y) with
        | .slice a n _, some m => match firstX s te.cells (Nat.min m n) (evalO tm y) with
          | some l => match a with
            | some ad => match storeN E s ad.block ad.off l with
              | some s => some (.int .i64 ((Nat.min m n : Nat) : Int), s)
              | none => none
            | none => match l with
              | [] => some (.int .i64 ((Nat.min m n : Nat) : Int), s)
              | _ => none
          | none => none
        | _, _ => none
      | none => none
    | .builtin .clear, [x], t :: _ => match E.tys.find t, evalO tm x with
      | some ti, .slice a n _ => match ti.desc, a with
        | .slice _, none => some (.tuple #[], s)
        | .slice e, some ad => match Nat.beq n 0 with
          | true => some (.tuple #[], s)
          | false => match E.tys.find e with
            | some te => match zeroL te with
              | some z => match storeN E s ad.block ad.off (rep z n) with
                | some s => some (.tuple #[], s)
                | none => none
              | none => none
            | none => none
        | _, _ => none
      | _, _ => none
    | _, _, _ => none
noncomputable def lkw (s : S) (r : Option Value) : Option (Value × S) := Option.rec (motive := fun _ => Option (Value × S)) none (fun v => some (v, s)) r
noncomputable def alw (s : S) (r : Option (MO × AV)) : Option (Value × S) := Option.rec (motive := fun _ => Option (Value × S)) none (fun p => some (p.2.at s.n, newB s p.1)) r
noncomputable def lkDo (o : Op) : Env → TM → S → Option Value := Op.rec (motive := fun _ => Env → TM → S → Option Value) lkmove lkassign lkpick (fun _ _ _ _ => none) (fun _ _ _ _ _ => none) lkbuild (fun _ _ _ _ _ _ => none) (fun _ _ _ _ _ _ _ => none) lkload (fun _ _ _ _ _ _ => none) (fun _ _ _ _ => none) (fun _ _ _ _ => none) lknilCheck lkbinOp lkunOp lkconvert (fun _ _ _ _ _ => none) lkmakeInterface lkmakeFunc (fun _ _ _ _ _ => none) (fun _ _ _ _ _ => none) (fun _ _ _ _ _ _ => none) lkslice lkfieldAddr lkfield lkindexAddr lkindex lklookup (fun _ _ _ _ _ _ _ => none) (fun _ _ _ _ _ _ => none) (fun _ _ _ _ _ _ _ => none) (fun _ _ _ _ _ => none) (fun _ _ _ _ _ => none) (fun _ _ _ _ => none) (fun _ _ _ _ _ _ _ => none) lkextract lkcall (fun _ _ _ _ => none) (fun _ _ _ _ => none) (fun _ _ _ _ => none) (fun _ _ _ _ _ => none) (fun _ _ _ _ _ _ => none) (fun _ _ _ _ _ => none) o
noncomputable def alDo (o : Op) : Env → TM → Option (MO × AV) := Op.rec (motive := fun _ => Env → TM → Option (MO × AV)) (fun _ _ _ => none) (fun _ _ _ => none) (fun _ _ _ _ _ => none) alalloc albox (fun _ _ _ _ => none) albuildSlice (fun _ _ _ _ _ _ => none) (fun _ _ _ _ => none) (fun _ _ _ _ _ => none) (fun _ _ _ => none) (fun _ _ _ => none) (fun _ _ _ => none) (fun _ _ _ _ _ _ _ => none) (fun _ _ _ _ _ => none) alconvert (fun _ _ _ _ => none) (fun _ _ _ _ => none) (fun _ _ _ _ _ => none) almakeMap (fun _ _ _ _ => none) almakeSlice (fun _ _ _ _ _ _ _ => none) (fun _ _ _ _ _ => none) (fun _ _ _ _ _ => none) (fun _ _ _ _ _ => none) (fun _ _ _ _ _ => none) (fun _ _ _ _ _ _ => none) (fun _ _ _ _ _ _ => none) (fun _ _ _ _ _ => none) (fun _ _ _ _ _ _ => none) (fun _ _ _ _ => none) (fun _ _ _ _ => none) (fun _ _ _ => none) (fun _ _ _ _ _ _ => none) (fun _ _ _ _ => none) (fun _ _ _ => none) (fun _ _ _ => none) (fun _ _ _ => none) (fun _ _ _ => none) (fun _ _ _ _ => none) (fun _ _ _ _ _ => none) (fun _ _ _ _ => none) o
noncomputable def efDo (o : Op) : Env → TM → S → Option (Value × S) := Op.rec (motive := fun _ => Env → TM → S → Option (Value × S)) (fun _ _ _ _ => none) (fun _ _ _ _ => none) (fun _ _ _ _ _ _ => none) (fun _ _ _ _ => none) (fun _ _ _ _ _ => none) (fun _ _ _ _ _ => none) (fun _ _ _ _ _ _ => none) (fun _ _ _ _ _ _ _ => none) (fun _ _ _ _ _ => none) efstore (fun _ _ _ _ => none) (fun _ _ _ _ => none) (fun _ _ _ _ => none) (fun _ _ _ _ _ _ _ _ => none) (fun _ _ _ _ _ _ => none) efconvert (fun _ _ _ _ _ => none) (fun _ _ _ _ _ => none) (fun _ _ _ _ _ _ => none) (fun _ _ _ _ _ => none) (fun _ _ _ _ _ => none) (fun _ _ _ _ _ _ => none) (fun _ _ _ _ _ _ _ _ => none) (fun _ _ _ _ _ _ => none) (fun _ _ _ _ _ _ => none) (fun _ _ _ _ _ _ => none) (fun _ _ _ _ _ _ => none) (fun _ _ _ _ _ _ _ => none) efmapUpdate (fun _ _ _ _ _ _ => none) (fun _ _ _ _ _ _ _ => none) (fun _ _ _ _ _ => none) (fun _ _ _ _ _ => none) (fun _ _ _ _ => none) (fun _ _ _ _ _ _ _ => none) (fun _ _ _ _ _ => none) efcall (fun _ _ _ _ => none) (fun _ _ _ _ => none) (fun _ _ _ _ => none) (fun _ _ _ _ _ => none) (fun _ _ _ _ _ _ => none) (fun _ _ _ _ _ => none) o
theorem lkDo_eq (o : Oper) (E : Env) (tm : TM) (s : S) : lkDo o.op E tm s = evLook E o tm s := by
  obtain ⟨dst, op, type, pos, after, guard⟩ := o
  cases op <;> rfl
theorem alDo_eq (o : Oper) (E : Env) (tm : TM) : alDo o.op E tm = evAlloc E o tm := by
  obtain ⟨dst, op, type, pos, after, guard⟩ := o
  cases op <;> rfl
theorem efDo_eq (o : Oper) (E : Env) (tm : TM) (s : S) : efDo o.op E tm s = evEff E o tm s := by
  obtain ⟨dst, op, type, pos, after, guard⟩ := o
  cases op <;> rfl
noncomputable def kdconvert (src dst : TypeId) (_ : Operand) (E : Env) : K := Bool.rec (motive := fun _ => K) (Bool.rec (motive := fun _ => K) .pure .look (isStrD E dst)) (Bool.rec (motive := fun _ => K) .alloc .eff (isSliceD E src)) (isSliceD E dst)
def kdcall (c : Call) (_ : Env) : K := match c.callee with
    | .value _ => .call
    | .builtin .len => .look
    | .builtin .cap | .builtin .min | .builtin .max => .pure
    | .builtin .append | .builtin .copy | .builtin .clear => .eff
    | _ => .bad
noncomputable def kdDo (o : Op) : Env → K := Op.rec (motive := fun _ => Env → K) (fun _ _ => .pure) (fun _ _ => .pure) (fun _ _ _ _ => .pure) (fun _ _ => .alloc) (fun _ _ _ => .alloc) (fun _ _ _ => .pure) (fun _ _ _ _ => .alloc) (fun _ _ _ _ _ => .bad) (fun _ _ _ => .look) (fun _ _ _ _ => .eff) (fun _ _ => .bad) (fun _ _ => .bad) (fun _ _ => .pure) (fun _ _ _ _ _ _ => .pure) (fun _ _ _ _ => .pure) kdconvert (fun _ _ _ => .bad) (fun _ _ _ => .pure) (fun _ _ _ _ => .pure) (fun _ _ _ => .alloc) (fun _ _ _ => .bad) (fun _ _ _ _ => .alloc) (fun _ _ _ _ _ _ => .pure) (fun _ _ _ _ => .pure) (fun _ _ _ _ => .pure) (fun _ _ _ _ => .pure) (fun _ _ _ _ => .pure) (fun _ _ _ _ _ => .look) (fun _ _ _ _ _ => .eff) (fun _ _ _ _ => .bad) (fun _ _ _ _ _ => .bad) (fun _ _ _ => .bad) (fun _ _ _ => .bad) (fun _ _ => .bad) (fun _ _ _ _ _ => .bad) (fun _ _ _ => .pure) kdcall (fun _ _ => .bad) (fun _ _ => .bad) (fun _ _ => .bad) (fun _ _ _ => .bad) (fun _ _ _ _ => .bad) (fun _ _ _ => .bad) o
theorem kdDo_eq (o : Op) (E : Env) : kdDo o E = kind E o := by
  cases o <;> first
    | rfl
    | (rename_i src dst x
       show Bool.rec (motive := fun _ => K) (Bool.rec (motive := fun _ => K) .pure .look (isStrD E dst)) (Bool.rec (motive := fun _ => K) .alloc .eff (isSliceD E src)) (isSliceD E dst) = kind E (.convert src dst x)
       simp only [kind]
       cases isSliceD E dst <;> cases isSliceD E src <;> cases isStrD E dst <;> rfl)
noncomputable def doconvert (a b : TypeId) (x : Operand) (E : Env) (_ : FF) (tm : TM) (s : S) : Option (Value × S) := Bool.rec (motive := fun _ => Option (Value × S)) (lkw s (lkconvert a b x E tm s)) (Bool.rec (motive := fun _ => Option (Value × S)) (alw s (alconvert a b x E tm)) (efconvert a b x E tm s) (isSliceD E a)) (isSliceD E b)
noncomputable def dovalue (c : Call) (f : Operand) (F : FF) (tm : TM) (s : S) : Option (Value × S) := match evalO tm f with
  | .func (.func f) first cap => F f (first.toList ++ (c.args.toList.map (evalO tm) ++ cap.toList)) s
  | _ => none
noncomputable def docall (c : Call) (E : Env) (F : FF) (tm : TM) (s : S) : Option (Value × S) := match c.callee with
  | .value f => dovalue c f F tm s
  | .builtin .len | .builtin .cap | .builtin .min | .builtin .max => lkw s (lkcall c E tm s)
  | .builtin .append | .builtin .copy | .builtin .clear => efcall c E tm s
  | _ => none
noncomputable def domove (a0 : Operand) (E : Env) (_ : FF) (tm : TM) (s : S) : Option (Value × S) := lkw s (lkmove a0 E tm s)
noncomputable def doassign (a0 : Operand) (E : Env) (_ : FF) (tm : TM) (s : S) : Option (Value × S) := lkw s (lkassign a0 E tm s)
noncomputable def dopick (a0 : Operand) (a1 : Operand) (a2 : Operand) (E : Env) (_ : FF) (tm : TM) (s : S) : Option (Value × S) := lkw s (lkpick a0 a1 a2 E tm s)
noncomputable def doalloc (a0 : TypeId) (E : Env) (_ : FF) (tm : TM) (s : S) : Option (Value × S) := alw s (alalloc a0 E tm)
noncomputable def dobox (a0 : TypeId) (a1 : Operand) (E : Env) (_ : FF) (tm : TM) (s : S) : Option (Value × S) := alw s (albox a0 a1 E tm)
noncomputable def dobuild (a0 : TypeId) (a1 : Array (Nat × Operand)) (E : Env) (_ : FF) (tm : TM) (s : S) : Option (Value × S) := lkw s (lkbuild a0 a1 E tm s)
noncomputable def dobuildSlice (a0 : TypeId) (a1 : Nat) (a2 : Array (Nat × Operand)) (E : Env) (_ : FF) (tm : TM) (s : S) : Option (Value × S) := alw s (albuildSlice a0 a1 a2 E tm)
noncomputable def doload (a0 : TypeId) (a1 : Operand) (E : Env) (_ : FF) (tm : TM) (s : S) : Option (Value × S) := lkw s (lkload a0 a1 E tm s)
noncomputable def dostore (a0 : TypeId) (a1 : Operand) (a2 : Operand) (E : Env) (_ : FF) (tm : TM) (s : S) : Option (Value × S) := efstore a0 a1 a2 E tm s
noncomputable def donilCheck (a0 : Operand) (E : Env) (_ : FF) (tm : TM) (s : S) : Option (Value × S) := lkw s (lknilCheck a0 E tm s)
noncomputable def dobinOp (a0 : BinOp) (a1 : TypeId) (a2 : Operand) (a3 : Operand) (a4 : TypeId) (E : Env) (_ : FF) (tm : TM) (s : S) : Option (Value × S) := lkw s (lkbinOp a0 a1 a2 a3 a4 E tm s)
noncomputable def dounOp (a0 : UnOp) (a1 : TypeId) (a2 : Operand) (E : Env) (_ : FF) (tm : TM) (s : S) : Option (Value × S) := lkw s (lkunOp a0 a1 a2 E tm s)
noncomputable def domakeInterface (a0 : TypeId) (a1 : Operand) (E : Env) (_ : FF) (tm : TM) (s : S) : Option (Value × S) := lkw s (lkmakeInterface a0 a1 E tm s)
noncomputable def domakeFunc (a0 : Fn) (a1 : Array Operand) (a2 : Array Operand) (E : Env) (_ : FF) (tm : TM) (s : S) : Option (Value × S) := lkw s (lkmakeFunc a0 a1 a2 E tm s)
noncomputable def domakeMap (a0 : TypeId) (a1 : Option Operand) (E : Env) (_ : FF) (tm : TM) (s : S) : Option (Value × S) := alw s (almakeMap a0 a1 E tm)
noncomputable def domakeSlice (a0 : TypeId) (a1 : Operand) (a2 : Operand) (E : Env) (_ : FF) (tm : TM) (s : S) : Option (Value × S) := alw s (almakeSlice a0 a1 a2 E tm)
noncomputable def doslice (a0 : TypeId) (a1 : Operand) (a2 : Option Operand) (a3 : Option Operand) (a4 : Option Operand) (E : Env) (_ : FF) (tm : TM) (s : S) : Option (Value × S) := lkw s (lkslice a0 a1 a2 a3 a4 E tm s)
noncomputable def dofieldAddr (a0 : TypeId) (a1 : Operand) (a2 : Nat) (E : Env) (_ : FF) (tm : TM) (s : S) : Option (Value × S) := lkw s (lkfieldAddr a0 a1 a2 E tm s)
noncomputable def dofield (a0 : TypeId) (a1 : Operand) (a2 : Nat) (E : Env) (_ : FF) (tm : TM) (s : S) : Option (Value × S) := lkw s (lkfield a0 a1 a2 E tm s)
noncomputable def doindexAddr (a0 : TypeId) (a1 : Operand) (a2 : Operand) (E : Env) (_ : FF) (tm : TM) (s : S) : Option (Value × S) := lkw s (lkindexAddr a0 a1 a2 E tm s)
noncomputable def doindex (a0 : TypeId) (a1 : Operand) (a2 : Operand) (E : Env) (_ : FF) (tm : TM) (s : S) : Option (Value × S) := lkw s (lkindex a0 a1 a2 E tm s)
noncomputable def dolookup (a0 : TypeId) (a1 : Operand) (a2 : Operand) (a3 : Bool) (E : Env) (_ : FF) (tm : TM) (s : S) : Option (Value × S) := lkw s (lklookup a0 a1 a2 a3 E tm s)
noncomputable def domapUpdate (a0 : TypeId) (a1 : Operand) (a2 : Operand) (a3 : Operand) (E : Env) (_ : FF) (tm : TM) (s : S) : Option (Value × S) := efmapUpdate a0 a1 a2 a3 E tm s
noncomputable def doextract (a0 : Operand) (a1 : Nat) (E : Env) (_ : FF) (tm : TM) (s : S) : Option (Value × S) := lkw s (lkextract a0 a1 E tm s)
noncomputable def opDo (o : Op) : Env → FF → TM → S → Option (Value × S) := Op.rec (motive := fun _ => Env → FF → TM → S → Option (Value × S)) domove doassign dopick doalloc dobox dobuild dobuildSlice (fun _ _ _ _ _ _ _ _ => none) doload dostore (fun _ _ _ _ _ => none) (fun _ _ _ _ _ => none) donilCheck dobinOp dounOp doconvert (fun _ _ _ _ _ _ => none) domakeInterface domakeFunc domakeMap (fun _ _ _ _ _ _ => none) domakeSlice doslice dofieldAddr dofield doindexAddr doindex dolookup domapUpdate (fun _ _ _ _ _ _ _ => none) (fun _ _ _ _ _ _ _ _ => none) (fun _ _ _ _ _ _ => none) (fun _ _ _ _ _ _ => none) (fun _ _ _ _ _ => none) (fun _ _ _ _ _ _ _ _ => none) doextract docall (fun _ _ _ _ _ => none) (fun _ _ _ _ _ => none) (fun _ _ _ _ _ => none) (fun _ _ _ _ _ _ => none) (fun _ _ _ _ _ _ _ => none) (fun _ _ _ _ _ _ => none) o
theorem lkw_eq (s : S) (r : Option Value) : lkw s r = (match r with | some v => some (v, s) | none => none) := by cases r <;> rfl
theorem alw_eq (s : S) (r : Option (MO × AV)) : alw s r = (match r with | some (m, v) => some (v.at s.n, newB s m) | none => none) := by cases r <;> rfl
theorem opDo_eq (o : Oper) (E : Env) (F : FF) (tm : TM) (s : S) : opDo o.op E F tm s = evOp E F o tm s := by
  have hl := lkDo_eq o E tm s
  have ha := alDo_eq o E tm
  have he := efDo_eq o E tm s
  obtain ⟨dst, op, type, pos, after, guard⟩ := o
  cases op <;> first
    | rfl
    | (show lkw s _ = _; rw [lkw_eq]; rfl)
    | (show alw s _ = _; rw [alw_eq]; rfl)
    | skip
  case convert src d x =>
    show doconvert src d x E F tm s = _
    unfold doconvert evOp
    simp only [kind]
    rw [lkw_eq, alw_eq]
    cases isSliceD E d with
    | true => cases isSliceD E src <;> rfl
    | false => cases isStrD E d <;> rfl
  case call c =>
    show docall c E F tm s = _
    unfold docall evOp
    simp only [kind]
    cases hc : c.callee with
    | value f =>
      simp only [dovalue, evCall, hc]
      cases evalO tm f <;> first | rfl | (rename_i fn a b; cases fn <;> rfl)
    | invoke r m => rfl
    | builtin b => cases b <;> first | rfl | (simp only; rw [lkw_eq]; rfl)
end Go.Proofs.YtpmehdggikjkfaaGreatDoor.Rf
