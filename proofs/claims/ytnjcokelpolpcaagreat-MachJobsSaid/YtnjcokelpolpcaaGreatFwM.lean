/- The program's data, as Lean's; and the cells that they stand in. -/
import Derived.Test.YtnjcokelpolpcaaGreatFwW
set_option linter.unusedVariables false
namespace Go.Proofs.Fw
open Go Go.RowKit
abbrev c_i64 (x : Int) : List V := [V.lit (.int .i64 x)]
abbrev c_u64 (x : UInt64) : List V := [V.lit (.int .u64 (x.toNat : Int))]
abbrev c_u8 (x : Int) : List V := [V.lit (.int .u8 x)]
abbrev c_bool (x : Bool) : List V := [V.lit (.bool x)]
abbrev c_str (x : ByteArray) : List V := [V.lit (.string x)]
namespace M

structure Tx where
  Age : UInt64
  Id : UInt64
  deriving Inhabited, DecidableEq
abbrev cTx (x : Tx) : List V := [(V.lit (.int .u64 (x.Age.toNat : Int))), (V.lit (.int .u64 (x.Id.toNat : Int)))]
structure Put where
  Key : ByteArray
  Val : ByteArray
  Gone : Bool
  deriving Inhabited, DecidableEq
abbrev cPut (x : Put) : List V := [(V.lit (.string x.Key)), (V.lit (.string x.Val)), (V.lit (.bool x.Gone))]
structure Order where
  Kind : Int
  T : M.Tx
  Key : ByteArray
  Puts : (List M.Put)
  Commit : Bool
  Parts : (List UInt64)
  deriving Inhabited, DecidableEq
abbrev cOrder (x : Order) : List V := [(V.lit (.int .i64 x.Kind)), (V.lit (.int .u64 (x.T.Age.toNat : Int))), (V.lit (.int .u64 (x.T.Id.toNat : Int))), (V.lit (.string x.Key)), (V.sl 3 (x.Puts.map cPut)), (V.lit (.bool x.Commit)), (V.sl 1 (x.Parts.map c_u64))]
structure Job where
  Client : UInt64
  Seq : UInt64
  O : M.Order
  deriving Inhabited, DecidableEq
abbrev cJob (x : Job) : List V := [(V.lit (.int .u64 (x.Client.toNat : Int))), (V.lit (.int .u64 (x.Seq.toNat : Int))), (V.lit (.int .i64 x.O.Kind)), (V.lit (.int .u64 (x.O.T.Age.toNat : Int))), (V.lit (.int .u64 (x.O.T.Id.toNat : Int))), (V.lit (.string x.O.Key)), (V.sl 3 (x.O.Puts.map cPut)), (V.lit (.bool x.O.Commit)), (V.sl 1 (x.O.Parts.map c_u64))]
structure Row where
  Key : ByteArray
  Val : ByteArray
  Ver : UInt64
  deriving Inhabited, DecidableEq
abbrev cRow (x : Row) : List V := [(V.lit (.string x.Key)), (V.lit (.string x.Val)), (V.lit (.int .u64 (x.Ver.toNat : Int)))]
structure Hold where
  Key : ByteArray
  T : M.Tx
  Write : Bool
  deriving Inhabited, DecidableEq
abbrev cHold (x : Hold) : List V := [(V.lit (.string x.Key)), (V.lit (.int .u64 (x.T.Age.toNat : Int))), (V.lit (.int .u64 (x.T.Id.toNat : Int))), (V.lit (.bool x.Write))]
structure Open where
  T : M.Tx
  Firm : Bool
  Wounded : Bool
  Puts : (List M.Put)
  deriving Inhabited, DecidableEq
abbrev cOpen (x : Open) : List V := [(V.lit (.int .u64 (x.T.Age.toNat : Int))), (V.lit (.int .u64 (x.T.Id.toNat : Int))), (V.lit (.bool x.Firm)), (V.lit (.bool x.Wounded)), (V.sl 3 (x.Puts.map cPut))]
structure Done where
  T : M.Tx
  Commit : Bool
  deriving Inhabited, DecidableEq
abbrev cDone (x : Done) : List V := [(V.lit (.int .u64 (x.T.Age.toNat : Int))), (V.lit (.int .u64 (x.T.Id.toNat : Int))), (V.lit (.bool x.Commit))]
structure Shard where
  Rows : (List M.Row)
  Holds : (List M.Hold)
  Open : (List M.Open)
  Done : (List M.Done)
  Ver : UInt64
  deriving Inhabited, DecidableEq
abbrev cShard (x : Shard) : List V := [(V.sl 3 (x.Rows.map cRow)), (V.sl 4 (x.Holds.map cHold)), (V.sl 5 (x.Open.map cOpen)), (V.sl 3 (x.Done.map cDone)), (V.lit (.int .u64 (x.Ver.toNat : Int)))]
structure Deal where
  T : M.Tx
  Parts : (List UInt64)
  State : Int
  deriving Inhabited, DecidableEq
abbrev cDeal (x : Deal) : List V := [(V.lit (.int .u64 (x.T.Age.toNat : Int))), (V.lit (.int .u64 (x.T.Id.toNat : Int))), (V.sl 1 (x.Parts.map c_u64)), (V.lit (.int .i64 x.State))]
structure Coord where
  Deals : (List M.Deal)
  deriving Inhabited, DecidableEq
abbrev cCoord (x : Coord) : List V := [(V.sl 4 (x.Deals.map cDeal))]
structure Answer where
  Err : Int
  Val : ByteArray
  Ver : UInt64
  Found : Bool
  Commit : Bool
  deriving Inhabited, DecidableEq
abbrev cAnswer (x : Answer) : List V := [(V.lit (.int .i64 x.Err)), (V.lit (.string x.Val)), (V.lit (.int .u64 (x.Ver.toNat : Int))), (V.lit (.bool x.Found)), (V.lit (.bool x.Commit))]
structure Session where
  Client : UInt64
  Seq : UInt64
  A : M.Answer
  deriving Inhabited, DecidableEq
abbrev cSession (x : Session) : List V := [(V.lit (.int .u64 (x.Client.toNat : Int))), (V.lit (.int .u64 (x.Seq.toNat : Int))), (V.lit (.int .i64 x.A.Err)), (V.lit (.string x.A.Val)), (V.lit (.int .u64 (x.A.Ver.toNat : Int))), (V.lit (.bool x.A.Found)), (V.lit (.bool x.A.Commit))]
structure Machine where
  Kind : Int
  S : M.Shard
  C : M.Coord
  Sessions : (List M.Session)
  deriving Inhabited, DecidableEq
abbrev cMachine (x : Machine) : List V := [(V.lit (.int .i64 x.Kind)), (V.sl 3 (x.S.Rows.map cRow)), (V.sl 4 (x.S.Holds.map cHold)), (V.sl 5 (x.S.Open.map cOpen)), (V.sl 3 (x.S.Done.map cDone)), (V.lit (.int .u64 (x.S.Ver.toNat : Int))), (V.sl 4 (x.C.Deals.map cDeal)), (V.sl 7 (x.Sessions.map cSession))]
structure reader where
  s : ByteArray
  deriving Inhabited, DecidableEq
abbrev creader (x : reader) : List V := [(V.lit (.string x.s))]
structure Reader where
  S : ByteArray
  Bad : Bool
  deriving Inhabited, DecidableEq
abbrev cReader (x : Reader) : List V := [(V.lit (.string x.S)), (V.lit (.bool x.Bad))]
structure place where
  t : M.Tx
  key : ByteArray
  deriving Inhabited, DecidableEq
abbrev cplace (x : place) : List V := [(V.lit (.int .u64 (x.t.Age.toNat : Int))), (V.lit (.int .u64 (x.t.Id.toNat : Int))), (V.lit (.string x.key))]
end M
end Go.Proofs.Fw
